/- galleyref15's Apply, SamePoint, Flat: printed by geo19.py. -/
import Derived.Test.YtelalledjbeenaaGeoX
namespace Go.Proofs.Ytelalledjbeenaa
open Go.RowKit Fl

set_option maxRecDepth 100000 in
set_option maxHeartbeats 2000000 in
theorem k74 {a0 b0 a1 b1 a2 b2 a3 b3 : Nat} {P0 P1 P2 P3 : Int} (ha0 : RV a0 P0) (hb0 : RV b0 P0) (ha1 : RV a1 P1) (hb1 : RV b1 P1) (ha2 : RV a2 P2) (hb2 : RV b2 P2) (ha3 : RV a3 P3) (hb3 : RV b3 P3) (w : World) :
    Calls Try.prog 74 #[.agg #[.float .f64 a0, .float .f64 a1, .float .f64 a2, .float .f64 a3], .agg #[.float .f64 b0, .float .f64 b1, .float .f64 b2, .float .f64 b3]] w fun e w' => e = .returned (.bool true) ∧ Below w.heap.size w w' := by
  have HA := Lib.hid (And.intro ha0 (And.intro ha1 (And.intro ha2 ha3)))
  have HB := Lib.hid (And.intro hb0 (And.intro hb1 (And.intro hb2 hb3)))
  clear ha0 ha1 ha2 ha3 hb0 hb1 hb2 hb3
  have BB := Lib.hid (((Below.refl w.heap.size w).alloc (Nat.le_refl _) (.cells #[.float .f64 a0, .float .f64 a1, .float .f64 a2, .float .f64 a3] 60)).alloc (by simp) (.cells #[.float .f64 b0, .float .f64 b1, .float .f64 b2, .float .f64 b3] 60))
  go_enter Try.func74, Try.ntmps74
  go_wp2_with fail
  refine (k32 HA.out.1 HB.out.1 _).mono ?_
  rintro e w' ⟨rfl, rfl⟩
  go_wp2_with fail
  refine (k32 HA.out.2.1 HB.out.2.1 _).mono ?_
  rintro e w' ⟨rfl, rfl⟩
  go_wp2_with fail
  refine (k32 HA.out.2.2.1 HB.out.2.2.1 _).mono ?_
  rintro e w' ⟨rfl, rfl⟩
  go_wp2_with fail
  refine (k32 HA.out.2.2.2 HB.out.2.2.2 _).mono ?_
  rintro e w' ⟨rfl, rfl⟩
  go_wp2
  go_ret
  exact ⟨rfl, BB.out⟩

theorem size61' : (Try.prog.info? 61).map (·.size) = some 4 := size61
theorem tw4_entry (w : World) (A B V : List Value) : TW (((((w.alloc (.cells A.toArray 80)).alloc (.cells B.toArray 60)).alloc (.cells #[.float .f64 0, .float .f64 0, .float .f64 0, .float .f64 0] 60)).alloc (.cells V.toArray 61)).alloc (.cells #[.float .f64 0, .float .f64 0, .float .f64 0, .float .f64 0] 61)) w A B 4 (w.heap.size + 1 + 1 + 1 + 1) 4 (List.replicate 4 0) ∧
    Kp' (((((w.alloc (.cells A.toArray 80)).alloc (.cells B.toArray 60)).alloc (.cells #[.float .f64 0, .float .f64 0, .float .f64 0, .float .f64 0] 60)).alloc (.cells V.toArray 61)).alloc (.cells #[.float .f64 0, .float .f64 0, .float .f64 0, .float .f64 0] 61)) (w.heap.size + 1 + 1 + 1) V := by
  have h := two_entry w A B #[.float .f64 0, .float .f64 0, .float .f64 0, .float .f64 0] 80 60 60 4 rfl
  have e : (((w.alloc (.cells A.toArray 80)).alloc (.cells B.toArray 60)).alloc (.cells #[.float .f64 0, .float .f64 0, .float .f64 0, .float .f64 0] 60)).heap.size = w.heap.size + 1 + 1 + 1 := by simp
  generalize ((w.alloc (.cells A.toArray 80)).alloc (.cells B.toArray 60)).alloc (.cells #[.float .f64 0, .float .f64 0, .float .f64 0, .float .f64 0] 60) = W at *
  have hv := range_new W V 61
  have e2 : (W.alloc (.cells V.toArray 61)).heap.size = w.heap.size + 1 + 1 + 1 + 1 := by simp [e]
  have hr := range_new (W.alloc (.cells V.toArray 61)) ((List.replicate 4 0).map (Value.float .f64)) 61
  have ht := there_new (W.alloc (.cells V.toArray 61)) #[.float .f64 0, .float .f64 0, .float .f64 0, .float .f64 0] 61 4 rfl
  rw [e2] at hr ht
  rw [e] at hv
  refine ⟨⟨two_below (two_below h (alloc_below _ _)) (alloc_below _ _), hr, ht, by omega, by simp [e]⟩, range_below hv (alloc_below _ _) (by omega), by simp [e]⟩
set_option maxRecDepth 100000 in
set_option maxHeartbeats 2000000 in
theorem k102 {ms : List Nat} {x y z u : Nat} {X Y Z W : Int} (hm : MU ms) (hx : RV x X) (hy : RV y Y) (hz : RV z Z) (hu : RV u W) (w : World) :
    Calls Try.prog 102 #[.agg (ms.map (Value.float .f64)).toArray, .agg #[.float .f64 x, .float .f64 y, .float .f64 z, .float .f64 u]] w fun e w' => RetQ (rowP (mp ms) 0 X Y Z W) (rowP (mp ms) 1 X Y Z W) (rowP (mp ms) 2 X Y Z W) (rowP (mp ms) 3 X Y Z W) e ∧ Below w.heap.size w w' := by
  have HM := Lib.hid hm
  have HP := Lib.hid (And.intro hx (And.intro hy (And.intro hz hu)))
  clear hm hx hy hz hu
  have SS := Lib.hid (tw4_entry w (ms.map (Value.float .f64)) [.float .f64 x, .float .f64 y, .float .f64 z, .float .f64 u] [.float .f64 x, .float .f64 y, .float .f64 z, .float .f64 u])
  obtain ⟨sv0, sv1, sv2, sv3⟩ := store4n (((w.alloc (.cells (ms.map (Value.float .f64)).toArray 80)).alloc (.cells #[.float .f64 x, .float .f64 y, .float .f64 z, .float .f64 u] 60)).alloc (.cells #[.float .f64 0, .float .f64 0, .float .f64 0, .float .f64 0] 60)) 61
  rw [show (((w.alloc (.cells (ms.map (Value.float .f64)).toArray 80)).alloc (.cells #[.float .f64 x, .float .f64 y, .float .f64 z, .float .f64 u] 60)).alloc (.cells #[.float .f64 0, .float .f64 0, .float .f64 0, .float .f64 0] 60)).heap.size = w.heap.size + 1 + 1 + 1 by simp] at sv0 sv1 sv2 sv3
  go_enter Try.func102, Try.ntmps102
  go_upto_region 3 with fail
  refine wp_gen (fun wx => Hid (TW wx w (ms.map (Value.float .f64)) [.float .f64 x, .float .f64 y, .float .f64 z, .float .f64 u] 4 (w.heap.size + 1 + 1 + 1 + 1) 4 (List.replicate 4 0) ∧ Kp' wx (w.heap.size + 1 + 1 + 1) [.float .f64 x, .float .f64 y, .float .f64 z, .float .f64 u])) SS ?_
  intro wc hW
  clear SS sv0 sv1 sv2 sv3
  have HL := Lib.hid (show w.heap.size + 1 + 1 + 1 < w.heap.size + 1 + 1 + 1 + 1 by omega)
  generalize hg : w.heap.size + 1 + 1 + 1 + 1 = g at *
  generalize hgv : w.heap.size + 1 + 1 + 1 = gv at *
  clear hg hgv
  go_wp2_with fail
  go_loopw [7] (fun ii wx => ∃ (i : Nat) (os : List Nat), ii = .int .i64 (i : Nat) ∧ Hid (i ≤ 4) ∧ Hid (PLn 4 (fun j => rowP (mp ms) j X Y Z W) os i) ∧ Hid (TW wx w (ms.map (Value.float .f64)) [.float .f64 x, .float .f64 y, .float .f64 z, .float .f64 u] 4 g 4 os ∧ Kp' wx gv [.float .f64 x, .float .f64 y, .float .f64 z, .float .f64 u])) (fun ii _ => 4 - (intOf ii).toNat)
  case atStart => exact ⟨0, _, rfl, Lib.hid (by omega), Lib.hid pl_start, hW⟩
  case round =>
    obtain ⟨i, os, rfl, hi, hS, hX⟩ := hrel
    clear hW
    by_cases hlt : i < 4
    · have hki : (i : Int) < 4 := by omega
      have hk16 : (i : Int) < 16 := by omega
      have hi0 : (0 : Int) ≤ (i : Int) := by omega
      have HLT := Lib.hid hlt
      obtain ⟨x0, c0, r0⟩ := HM.out.get (j := i) (by omega)
      obtain ⟨x1, c1, r1⟩ := HM.out.get (j := 4 + i) (by omega)
      obtain ⟨x2, c2, r2⟩ := HM.out.get (j := 8 + i) (by omega)
      obtain ⟨x3, c3, r3⟩ := HM.out.get (j := 12 + i) (by omega)
      have RX := Lib.hid (And.intro r0 (And.intro r1 (And.intro r2 r3)))
      have C0 := Lib.hid (map_get c0)
      have C1 := Lib.hid (map_get c1)
      have C2 := Lib.hid (map_get c2)
      have C3 := Lib.hid (map_get c3)
      clear c0 c1 c2 c3 r0 r1 r2 r3 hlt
      go_upto_region 6 with fail
      have ra : ∀ w', Below wr.heap.size wr w' → w'.rangeAt w.heap.size 0 (ms.map (Value.float .f64)) := fun w' hw => range_below hX.out.1.o.r1 hw (by have := hX.out.1.o.lt; omega)
      have rv : ∀ w', Below wr.heap.size wr w' → w'.rangeAt gv 0 [.float .f64 x, .float .f64 y, .float .f64 z, .float .f64 u] := fun w' hw => range_below hX.out.2.1 hw hX.out.2.2
      have Z0 : Hid (IntKind.i64.wrap (4 + (i : Int)) = 4 + (i : Int) ∧ (0 : Int) ≤ 4 + (i : Int) ∧ (4 + (i : Int)).toNat = 4 + i ∧ 4 + (i : Int) < 16) := Lib.hid ⟨by rw [IntKind.wrap_i64]; omega, by omega, by omega, by omega⟩
      have Z1 : Hid (IntKind.i64.wrap (8 + (i : Int)) = 8 + (i : Int) ∧ (0 : Int) ≤ 8 + (i : Int) ∧ (8 + (i : Int)).toNat = 8 + i ∧ 8 + (i : Int) < 16) := Lib.hid ⟨by rw [IntKind.wrap_i64]; omega, by omega, by omega, by omega⟩
      have Z2 : Hid (IntKind.i64.wrap (12 + (i : Int)) = 12 + (i : Int) ∧ (0 : Int) ≤ 12 + (i : Int) ∧ (12 + (i : Int)).toNat = 12 + i ∧ 12 + (i : Int) < 16) := Lib.hid ⟨by rw [IntKind.wrap_i64]; omega, by omega, by omega, by omega⟩
      obtain ⟨W0, N0, T0, L0⟩ := Z0.out
      obtain ⟨W1, N1, T1, L1⟩ := Z1.out
      obtain ⟨W2, N2, T2, L2⟩ := Z2.out
      refine wp_region_rel 20 (fun w' => Below wr.heap.size wr w') GFR (by kernel_rfl) (by kernel_rfl) ((Below.refl _ _).drew) ?_
      simp only [List.take_succ_cons, List.take_zero, List.drop_succ_cons, List.drop_zero]
      refine rel_move (v := .int .i64 (i : Int)) rfl rfl ?_
      simp only [Act.put, List.setIfInBounds_toArray, List.set_cons_succ, List.set_cons_zero]
      refine rel_move (v := .int .i64 (i : Int)) rfl rfl ?_
      simp only [Act.put, List.setIfInBounds_toArray, List.set_cons_succ, List.set_cons_zero]
      refine rel_val (v := .pointer (some ⟨w.heap.size, i, none⟩)) rfl (fun w' hw => by go_simp) ?_
      simp only [Act.put, List.setIfInBounds_toArray, List.set_cons_succ, List.set_cons_zero]
      refine rel_loadF (w.heap.size) (i) x0 rfl rfl (fun w' hw => ra w' hw (i) _ C0.out) ?_
      simp only [Act.put, List.setIfInBounds_toArray, List.set_cons_succ, List.set_cons_zero]
      refine rel_move (v := .int .i64 (i : Int)) rfl rfl ?_
      simp only [Act.put, List.setIfInBounds_toArray, List.set_cons_succ, List.set_cons_zero]
      refine rel_val (v := .int .i64 (4 + (i : Int))) rfl (fun w' hw => by go_simp) ?_
      simp only [Act.put, List.setIfInBounds_toArray, List.set_cons_succ, List.set_cons_zero]
      refine rel_val (v := .pointer (some ⟨w.heap.size, 4 + i, none⟩)) rfl (fun w' hw => by go_simp) ?_
      simp only [Act.put, List.setIfInBounds_toArray, List.set_cons_succ, List.set_cons_zero]
      refine rel_loadF (w.heap.size) (4 + i) x1 rfl rfl (fun w' hw => ra w' hw (4 + i) _ C1.out) ?_
      simp only [Act.put, List.setIfInBounds_toArray, List.set_cons_succ, List.set_cons_zero]
      refine rel_move (v := .int .i64 (i : Int)) rfl rfl ?_
      simp only [Act.put, List.setIfInBounds_toArray, List.set_cons_succ, List.set_cons_zero]
      refine rel_val (v := .int .i64 (8 + (i : Int))) rfl (fun w' hw => by go_simp) ?_
      simp only [Act.put, List.setIfInBounds_toArray, List.set_cons_succ, List.set_cons_zero]
      refine rel_val (v := .pointer (some ⟨w.heap.size, 8 + i, none⟩)) rfl (fun w' hw => by go_simp) ?_
      simp only [Act.put, List.setIfInBounds_toArray, List.set_cons_succ, List.set_cons_zero]
      refine rel_loadF (w.heap.size) (8 + i) x2 rfl rfl (fun w' hw => ra w' hw (8 + i) _ C2.out) ?_
      simp only [Act.put, List.setIfInBounds_toArray, List.set_cons_succ, List.set_cons_zero]
      refine rel_move (v := .int .i64 (i : Int)) rfl rfl ?_
      simp only [Act.put, List.setIfInBounds_toArray, List.set_cons_succ, List.set_cons_zero]
      refine rel_val (v := .int .i64 (12 + (i : Int))) rfl (fun w' hw => by go_simp) ?_
      simp only [Act.put, List.setIfInBounds_toArray, List.set_cons_succ, List.set_cons_zero]
      refine rel_val (v := .pointer (some ⟨w.heap.size, 12 + i, none⟩)) rfl (fun w' hw => by go_simp) ?_
      simp only [Act.put, List.setIfInBounds_toArray, List.set_cons_succ, List.set_cons_zero]
      refine rel_loadF (w.heap.size) (12 + i) x3 rfl rfl (fun w' hw => ra w' hw (12 + i) _ C3.out) ?_
      simp only [Act.put, List.setIfInBounds_toArray, List.set_cons_succ, List.set_cons_zero]
      refine rel_val (v := .agg #[.float .f64 x0, .float .f64 x1, .float .f64 x2, .float .f64 x3]) rfl (fun w' hw => by go_simp) ?_
      simp only [Act.put, List.setIfInBounds_toArray, List.set_cons_succ, List.set_cons_zero]
      refine rel_load_row (gv) 0 [.float .f64 x, .float .f64 y, .float .f64 z, .float .f64 u] _ rfl rfl rv Try.underlying61 rfl size61 ?_
      simp only [Act.put, List.setIfInBounds_toArray, List.set_cons_succ, List.set_cons_zero]
      refine rel_call (f := 163) (args := #[.agg #[.float .f64 x0, .float .f64 x1, .float .f64 x2, .float .f64 x3], .agg #[.float .f64 x, .float .f64 y, .float .f64 z, .float .f64 u]]) rfl (fun w' hw => by go_simp) (fun w' hw => g163 RX.out.1 RX.out.2.1 RX.out.2.2.1 RX.out.2.2.2 HP.out.1 HP.out.2.1 HP.out.2.2.1 HP.out.2.2.2 hw) (fun v hv => ?_)
      obtain ⟨s1, rfl, hs1⟩ := G163 hv RX.out.1 RX.out.2.1 RX.out.2.2.1 RX.out.2.2.2 HP.out.1 HP.out.2.1 HP.out.2.2.1 HP.out.2.2.2
      simp only [Act.put, List.setIfInBounds_toArray, List.set_cons_succ, List.set_cons_zero]
      refine rel_val (v := .pointer (some ⟨g, i, none⟩)) rfl (fun w' hw => by go_simp) ?_
      simp only [Act.put, List.setIfInBounds_toArray, List.set_cons_succ, List.set_cons_zero]
      refine rel_nil ?_
      intro w4 hB4
      have W' := Lib.hid (And.intro (tw_below hX.out.1 hB4) (show Kp' w4 gv [.float .f64 x, .float .f64 y, .float .f64 z, .float .f64 u] from ⟨rv w4 hB4, Nat.lt_of_lt_of_le hX.out.2.2 hB4.size⟩))
      have RLAST := Lib.hid hs1
      clear W0 N0 T0 L0 W1 N1 T1 L1 W2 N2 T2 L2 hB4 ra rv hX
      have W5 := Lib.hid (And.intro (tw_set W'.out.1 i s1) (kp_set (g := g) (k := i) W'.out.2 HL.out (.float .f64 s1)))
      have S5 := Lib.hid (pl_step hS.out HLT.out RLAST.out)
      have st := store1 W'.out.1.t (o := i) HLT.out s1
      go_wp2_with fail
      go_roundw
      case rel => exact ⟨i + 1, _, by go_num, Lib.hid (by have := HLT.out; omega), S5, W5⟩
      case measure => have := HLT.out; simp [intOf]; omega
    · have hki : ¬ (i : Int) < 4 := by omega
      have h4 : i = 4 := by have := hi.out; omega
      subst h4
      obtain ⟨o0, o1, o2, o3, he⟩ : ∃ a b c d, os = [a, b, c, d] := by
        have := hS.out.1
        match os, this with
        | [a, b, c, d], _ => exact ⟨a, b, c, d, rfl⟩
      subst he
      obtain ⟨y0, y1, y2, y3⟩ := cells4 hX.out.1.r
      have T2 := Lib.hid hX.out.1.o.t
      have BW := Lib.hid hX.out.1.o.b
      have RR := Lib.hid (And.intro (hS.out.2 0 (by omega)) (And.intro (hS.out.2 1 (by omega)) (And.intro (hS.out.2 2 (by omega)) (hS.out.2 3 (by omega)))))
      obtain ⟨s0, s1, s2, s3⟩ := store4 T2.out
      clear hlt hX hS
      go_wp2
      refine bodyPost_ret (v := .agg #[_, _, _, _]) (ret_row Try.prog Try.results102 rfl [_, _, _, _] T2.out Try.underlying60 rfl size60) rfl ?_
      exact ⟨⟨_, _, _, _, rfl, RR.out⟩, below_setCells BW.out (by omega) 0 [_, _, _, _]⟩

/-- does a matrix stay in the plane? -/
def flatP (m : Nat → Int) : Bool := feqP (m 2) 0 && feqP (m 3) 0 && feqP (m 6) 0 && feqP (m 7) 0 && feqP (m 8) 0 && feqP (m 9) 0 && feqP (m 11) 0 && feqP (m 14) 0 && feqP (m 10) 4607182418800017408 && feqP (m 15) 4607182418800017408
theorem mu_list {ms : List Nat} (h : ms.length = 16) : ∃ m0 m1 m2 m3 m4 m5 m6 m7 m8 m9 m10 m11 m12 m13 m14 m15 : Nat, ms = [m0, m1, m2, m3, m4, m5, m6, m7, m8, m9, m10, m11, m12, m13, m14, m15] := by
  match ms, h with
  | [m0, m1, m2, m3, m4, m5, m6, m7, m8, m9, m10, m11, m12, m13, m14, m15], _ => exact ⟨m0, m1, m2, m3, m4, m5, m6, m7, m8, m9, m10, m11, m12, m13, m14, m15, rfl⟩
theorem rv0 : RV 0 0 := ⟨by unfold U; decide, by decide⟩
theorem rv1 : RV 4607182418800017408 4607182418800017408 := ⟨by unfold U; decide, by decide⟩
theorem RV.ne_ {x y : Nat} {P Q : Int} (hx : RV x P) (hy : RV y Q) : (FloatKind.f64.format.order x y != some Ordering.eq) = !feqP P Q := by rw [f_ne x y hx.1 hy.1, hx.2, hy.2]
set_option maxRecDepth 100000 in
set_option maxHeartbeats 2000000 in
theorem k106' (m0 m1 m2 m3 m4 m5 m6 m7 m8 m9 m10 m11 m12 m13 m14 m15 : Nat) (hm : MU [m0, m1, m2, m3, m4, m5, m6, m7, m8, m9, m10, m11, m12, m13, m14, m15]) (w : World) :
    Calls Try.prog 106 #[.agg #[.float .f64 m0, .float .f64 m1, .float .f64 m2, .float .f64 m3, .float .f64 m4, .float .f64 m5, .float .f64 m6, .float .f64 m7, .float .f64 m8, .float .f64 m9, .float .f64 m10, .float .f64 m11, .float .f64 m12, .float .f64 m13, .float .f64 m14, .float .f64 m15]] w fun e w' => e = .returned (.bool (flatP (mp [m0, m1, m2, m3, m4, m5, m6, m7, m8, m9, m10, m11, m12, m13, m14, m15]))) ∧ Below w.heap.size w w' := by
  have HR : Hid (∀ j, j < 16 → RV ([m0, m1, m2, m3, m4, m5, m6, m7, m8, m9, m10, m11, m12, m13, m14, m15].getD j 0) (mp [m0, m1, m2, m3, m4, m5, m6, m7, m8, m9, m10, m11, m12, m13, m14, m15] j)) := Lib.hid (fun j hj => by
    obtain ⟨x, h1, h2⟩ := hm.get hj
    rw [List.getD_eq_getElem?_getD, h1]; exact h2)
  have BB := Lib.hid ((Below.refl w.heap.size w).alloc (Nat.le_refl _) (.cells #[.float .f64 m0, .float .f64 m1, .float .f64 m2, .float .f64 m3, .float .f64 m4, .float .f64 m5, .float .f64 m6, .float .f64 m7, .float .f64 m8, .float .f64 m9, .float .f64 m10, .float .f64 m11, .float .f64 m12, .float .f64 m13, .float .f64 m14, .float .f64 m15] 80))
  clear hm
  cases h0 : feqP (mp [m0, m1, m2, m3, m4, m5, m6, m7, m8, m9, m10, m11, m12, m13, m14, m15] 2) 0
  · have K0 := Lib.hid h0
    clear h0
    have HH : Hid (flatP (mp [m0, m1, m2, m3, m4, m5, m6, m7, m8, m9, m10, m11, m12, m13, m14, m15]) = false) := Lib.hid (by unfold flatP; rw [K0.out]; simp)
    rw [HH.out]
    have e0 : (FloatKind.f64.format.order m2 0 == some Ordering.eq) = false := (RV.eq_ (show RV m2 (mp [m0, m1, m2, m3, m4, m5, m6, m7, m8, m9, m10, m11, m12, m13, m14, m15] 2) from HR.out 2 (by decide)) rv0).trans K0.out
    go_enter Try.func106, Try.ntmps106
    go_wp2
    go_ret
    exact ⟨rfl, BB.out⟩
  have K0 := Lib.hid h0
  clear h0
  cases h1 : feqP (mp [m0, m1, m2, m3, m4, m5, m6, m7, m8, m9, m10, m11, m12, m13, m14, m15] 3) 0
  · have K1 := Lib.hid h1
    clear h1
    have HH : Hid (flatP (mp [m0, m1, m2, m3, m4, m5, m6, m7, m8, m9, m10, m11, m12, m13, m14, m15]) = false) := Lib.hid (by unfold flatP; rw [K0.out, K1.out]; simp)
    rw [HH.out]
    have e0 : (FloatKind.f64.format.order m2 0 == some Ordering.eq) = true := (RV.eq_ (show RV m2 (mp [m0, m1, m2, m3, m4, m5, m6, m7, m8, m9, m10, m11, m12, m13, m14, m15] 2) from HR.out 2 (by decide)) rv0).trans K0.out
    have e1 : (FloatKind.f64.format.order m3 0 == some Ordering.eq) = false := (RV.eq_ (show RV m3 (mp [m0, m1, m2, m3, m4, m5, m6, m7, m8, m9, m10, m11, m12, m13, m14, m15] 3) from HR.out 3 (by decide)) rv0).trans K1.out
    go_enter Try.func106, Try.ntmps106
    go_wp2
    go_ret
    exact ⟨rfl, BB.out⟩
  have K1 := Lib.hid h1
  clear h1
  cases h2 : feqP (mp [m0, m1, m2, m3, m4, m5, m6, m7, m8, m9, m10, m11, m12, m13, m14, m15] 6) 0
  · have K2 := Lib.hid h2
    clear h2
    have HH : Hid (flatP (mp [m0, m1, m2, m3, m4, m5, m6, m7, m8, m9, m10, m11, m12, m13, m14, m15]) = false) := Lib.hid (by unfold flatP; rw [K0.out, K1.out, K2.out]; simp)
    rw [HH.out]
    have e0 : (FloatKind.f64.format.order m2 0 == some Ordering.eq) = true := (RV.eq_ (show RV m2 (mp [m0, m1, m2, m3, m4, m5, m6, m7, m8, m9, m10, m11, m12, m13, m14, m15] 2) from HR.out 2 (by decide)) rv0).trans K0.out
    have e1 : (FloatKind.f64.format.order m3 0 == some Ordering.eq) = true := (RV.eq_ (show RV m3 (mp [m0, m1, m2, m3, m4, m5, m6, m7, m8, m9, m10, m11, m12, m13, m14, m15] 3) from HR.out 3 (by decide)) rv0).trans K1.out
    have e2 : (FloatKind.f64.format.order m6 0 == some Ordering.eq) = false := (RV.eq_ (show RV m6 (mp [m0, m1, m2, m3, m4, m5, m6, m7, m8, m9, m10, m11, m12, m13, m14, m15] 6) from HR.out 6 (by decide)) rv0).trans K2.out
    go_enter Try.func106, Try.ntmps106
    go_wp2
    go_ret
    exact ⟨rfl, BB.out⟩
  have K2 := Lib.hid h2
  clear h2
  cases h3 : feqP (mp [m0, m1, m2, m3, m4, m5, m6, m7, m8, m9, m10, m11, m12, m13, m14, m15] 7) 0
  · have K3 := Lib.hid h3
    clear h3
    have HH : Hid (flatP (mp [m0, m1, m2, m3, m4, m5, m6, m7, m8, m9, m10, m11, m12, m13, m14, m15]) = false) := Lib.hid (by unfold flatP; rw [K0.out, K1.out, K2.out, K3.out]; simp)
    rw [HH.out]
    have e0 : (FloatKind.f64.format.order m2 0 == some Ordering.eq) = true := (RV.eq_ (show RV m2 (mp [m0, m1, m2, m3, m4, m5, m6, m7, m8, m9, m10, m11, m12, m13, m14, m15] 2) from HR.out 2 (by decide)) rv0).trans K0.out
    have e1 : (FloatKind.f64.format.order m3 0 == some Ordering.eq) = true := (RV.eq_ (show RV m3 (mp [m0, m1, m2, m3, m4, m5, m6, m7, m8, m9, m10, m11, m12, m13, m14, m15] 3) from HR.out 3 (by decide)) rv0).trans K1.out
    have e2 : (FloatKind.f64.format.order m6 0 == some Ordering.eq) = true := (RV.eq_ (show RV m6 (mp [m0, m1, m2, m3, m4, m5, m6, m7, m8, m9, m10, m11, m12, m13, m14, m15] 6) from HR.out 6 (by decide)) rv0).trans K2.out
    have e3 : (FloatKind.f64.format.order m7 0 == some Ordering.eq) = false := (RV.eq_ (show RV m7 (mp [m0, m1, m2, m3, m4, m5, m6, m7, m8, m9, m10, m11, m12, m13, m14, m15] 7) from HR.out 7 (by decide)) rv0).trans K3.out
    go_enter Try.func106, Try.ntmps106
    go_wp2
    go_ret
    exact ⟨rfl, BB.out⟩
  have K3 := Lib.hid h3
  clear h3
  cases h4 : feqP (mp [m0, m1, m2, m3, m4, m5, m6, m7, m8, m9, m10, m11, m12, m13, m14, m15] 8) 0
  · have K4 := Lib.hid h4
    clear h4
    have HH : Hid (flatP (mp [m0, m1, m2, m3, m4, m5, m6, m7, m8, m9, m10, m11, m12, m13, m14, m15]) = false) := Lib.hid (by unfold flatP; rw [K0.out, K1.out, K2.out, K3.out, K4.out]; simp)
    rw [HH.out]
    have e0 : (FloatKind.f64.format.order m2 0 == some Ordering.eq) = true := (RV.eq_ (show RV m2 (mp [m0, m1, m2, m3, m4, m5, m6, m7, m8, m9, m10, m11, m12, m13, m14, m15] 2) from HR.out 2 (by decide)) rv0).trans K0.out
    have e1 : (FloatKind.f64.format.order m3 0 == some Ordering.eq) = true := (RV.eq_ (show RV m3 (mp [m0, m1, m2, m3, m4, m5, m6, m7, m8, m9, m10, m11, m12, m13, m14, m15] 3) from HR.out 3 (by decide)) rv0).trans K1.out
    have e2 : (FloatKind.f64.format.order m6 0 == some Ordering.eq) = true := (RV.eq_ (show RV m6 (mp [m0, m1, m2, m3, m4, m5, m6, m7, m8, m9, m10, m11, m12, m13, m14, m15] 6) from HR.out 6 (by decide)) rv0).trans K2.out
    have e3 : (FloatKind.f64.format.order m7 0 == some Ordering.eq) = true := (RV.eq_ (show RV m7 (mp [m0, m1, m2, m3, m4, m5, m6, m7, m8, m9, m10, m11, m12, m13, m14, m15] 7) from HR.out 7 (by decide)) rv0).trans K3.out
    have e4 : (FloatKind.f64.format.order m8 0 == some Ordering.eq) = false := (RV.eq_ (show RV m8 (mp [m0, m1, m2, m3, m4, m5, m6, m7, m8, m9, m10, m11, m12, m13, m14, m15] 8) from HR.out 8 (by decide)) rv0).trans K4.out
    go_enter Try.func106, Try.ntmps106
    go_wp2
    go_ret
    exact ⟨rfl, BB.out⟩
  have K4 := Lib.hid h4
  clear h4
  cases h5 : feqP (mp [m0, m1, m2, m3, m4, m5, m6, m7, m8, m9, m10, m11, m12, m13, m14, m15] 9) 0
  · have K5 := Lib.hid h5
    clear h5
    have HH : Hid (flatP (mp [m0, m1, m2, m3, m4, m5, m6, m7, m8, m9, m10, m11, m12, m13, m14, m15]) = false) := Lib.hid (by unfold flatP; rw [K0.out, K1.out, K2.out, K3.out, K4.out, K5.out]; simp)
    rw [HH.out]
    have e0 : (FloatKind.f64.format.order m2 0 == some Ordering.eq) = true := (RV.eq_ (show RV m2 (mp [m0, m1, m2, m3, m4, m5, m6, m7, m8, m9, m10, m11, m12, m13, m14, m15] 2) from HR.out 2 (by decide)) rv0).trans K0.out
    have e1 : (FloatKind.f64.format.order m3 0 == some Ordering.eq) = true := (RV.eq_ (show RV m3 (mp [m0, m1, m2, m3, m4, m5, m6, m7, m8, m9, m10, m11, m12, m13, m14, m15] 3) from HR.out 3 (by decide)) rv0).trans K1.out
    have e2 : (FloatKind.f64.format.order m6 0 == some Ordering.eq) = true := (RV.eq_ (show RV m6 (mp [m0, m1, m2, m3, m4, m5, m6, m7, m8, m9, m10, m11, m12, m13, m14, m15] 6) from HR.out 6 (by decide)) rv0).trans K2.out
    have e3 : (FloatKind.f64.format.order m7 0 == some Ordering.eq) = true := (RV.eq_ (show RV m7 (mp [m0, m1, m2, m3, m4, m5, m6, m7, m8, m9, m10, m11, m12, m13, m14, m15] 7) from HR.out 7 (by decide)) rv0).trans K3.out
    have e4 : (FloatKind.f64.format.order m8 0 == some Ordering.eq) = true := (RV.eq_ (show RV m8 (mp [m0, m1, m2, m3, m4, m5, m6, m7, m8, m9, m10, m11, m12, m13, m14, m15] 8) from HR.out 8 (by decide)) rv0).trans K4.out
    have e5 : (FloatKind.f64.format.order m9 0 == some Ordering.eq) = false := (RV.eq_ (show RV m9 (mp [m0, m1, m2, m3, m4, m5, m6, m7, m8, m9, m10, m11, m12, m13, m14, m15] 9) from HR.out 9 (by decide)) rv0).trans K5.out
    go_enter Try.func106, Try.ntmps106
    go_wp2
    go_ret
    exact ⟨rfl, BB.out⟩
  have K5 := Lib.hid h5
  clear h5
  cases h6 : feqP (mp [m0, m1, m2, m3, m4, m5, m6, m7, m8, m9, m10, m11, m12, m13, m14, m15] 11) 0
  · have K6 := Lib.hid h6
    clear h6
    have HH : Hid (flatP (mp [m0, m1, m2, m3, m4, m5, m6, m7, m8, m9, m10, m11, m12, m13, m14, m15]) = false) := Lib.hid (by unfold flatP; rw [K0.out, K1.out, K2.out, K3.out, K4.out, K5.out, K6.out]; simp)
    rw [HH.out]
    have e0 : (FloatKind.f64.format.order m2 0 == some Ordering.eq) = true := (RV.eq_ (show RV m2 (mp [m0, m1, m2, m3, m4, m5, m6, m7, m8, m9, m10, m11, m12, m13, m14, m15] 2) from HR.out 2 (by decide)) rv0).trans K0.out
    have e1 : (FloatKind.f64.format.order m3 0 == some Ordering.eq) = true := (RV.eq_ (show RV m3 (mp [m0, m1, m2, m3, m4, m5, m6, m7, m8, m9, m10, m11, m12, m13, m14, m15] 3) from HR.out 3 (by decide)) rv0).trans K1.out
    have e2 : (FloatKind.f64.format.order m6 0 == some Ordering.eq) = true := (RV.eq_ (show RV m6 (mp [m0, m1, m2, m3, m4, m5, m6, m7, m8, m9, m10, m11, m12, m13, m14, m15] 6) from HR.out 6 (by decide)) rv0).trans K2.out
    have e3 : (FloatKind.f64.format.order m7 0 == some Ordering.eq) = true := (RV.eq_ (show RV m7 (mp [m0, m1, m2, m3, m4, m5, m6, m7, m8, m9, m10, m11, m12, m13, m14, m15] 7) from HR.out 7 (by decide)) rv0).trans K3.out
    have e4 : (FloatKind.f64.format.order m8 0 == some Ordering.eq) = true := (RV.eq_ (show RV m8 (mp [m0, m1, m2, m3, m4, m5, m6, m7, m8, m9, m10, m11, m12, m13, m14, m15] 8) from HR.out 8 (by decide)) rv0).trans K4.out
    have e5 : (FloatKind.f64.format.order m9 0 == some Ordering.eq) = true := (RV.eq_ (show RV m9 (mp [m0, m1, m2, m3, m4, m5, m6, m7, m8, m9, m10, m11, m12, m13, m14, m15] 9) from HR.out 9 (by decide)) rv0).trans K5.out
    have e6 : (FloatKind.f64.format.order m11 0 == some Ordering.eq) = false := (RV.eq_ (show RV m11 (mp [m0, m1, m2, m3, m4, m5, m6, m7, m8, m9, m10, m11, m12, m13, m14, m15] 11) from HR.out 11 (by decide)) rv0).trans K6.out
    go_enter Try.func106, Try.ntmps106
    go_wp2
    go_ret
    exact ⟨rfl, BB.out⟩
  have K6 := Lib.hid h6
  clear h6
  cases h7 : feqP (mp [m0, m1, m2, m3, m4, m5, m6, m7, m8, m9, m10, m11, m12, m13, m14, m15] 14) 0
  · have K7 := Lib.hid h7
    clear h7
    have HH : Hid (flatP (mp [m0, m1, m2, m3, m4, m5, m6, m7, m8, m9, m10, m11, m12, m13, m14, m15]) = false) := Lib.hid (by unfold flatP; rw [K0.out, K1.out, K2.out, K3.out, K4.out, K5.out, K6.out, K7.out]; simp)
    rw [HH.out]
    have e0 : (FloatKind.f64.format.order m2 0 == some Ordering.eq) = true := (RV.eq_ (show RV m2 (mp [m0, m1, m2, m3, m4, m5, m6, m7, m8, m9, m10, m11, m12, m13, m14, m15] 2) from HR.out 2 (by decide)) rv0).trans K0.out
    have e1 : (FloatKind.f64.format.order m3 0 == some Ordering.eq) = true := (RV.eq_ (show RV m3 (mp [m0, m1, m2, m3, m4, m5, m6, m7, m8, m9, m10, m11, m12, m13, m14, m15] 3) from HR.out 3 (by decide)) rv0).trans K1.out
    have e2 : (FloatKind.f64.format.order m6 0 == some Ordering.eq) = true := (RV.eq_ (show RV m6 (mp [m0, m1, m2, m3, m4, m5, m6, m7, m8, m9, m10, m11, m12, m13, m14, m15] 6) from HR.out 6 (by decide)) rv0).trans K2.out
    have e3 : (FloatKind.f64.format.order m7 0 == some Ordering.eq) = true := (RV.eq_ (show RV m7 (mp [m0, m1, m2, m3, m4, m5, m6, m7, m8, m9, m10, m11, m12, m13, m14, m15] 7) from HR.out 7 (by decide)) rv0).trans K3.out
    have e4 : (FloatKind.f64.format.order m8 0 == some Ordering.eq) = true := (RV.eq_ (show RV m8 (mp [m0, m1, m2, m3, m4, m5, m6, m7, m8, m9, m10, m11, m12, m13, m14, m15] 8) from HR.out 8 (by decide)) rv0).trans K4.out
    have e5 : (FloatKind.f64.format.order m9 0 == some Ordering.eq) = true := (RV.eq_ (show RV m9 (mp [m0, m1, m2, m3, m4, m5, m6, m7, m8, m9, m10, m11, m12, m13, m14, m15] 9) from HR.out 9 (by decide)) rv0).trans K5.out
    have e6 : (FloatKind.f64.format.order m11 0 == some Ordering.eq) = true := (RV.eq_ (show RV m11 (mp [m0, m1, m2, m3, m4, m5, m6, m7, m8, m9, m10, m11, m12, m13, m14, m15] 11) from HR.out 11 (by decide)) rv0).trans K6.out
    have e7 : (FloatKind.f64.format.order m14 0 == some Ordering.eq) = false := (RV.eq_ (show RV m14 (mp [m0, m1, m2, m3, m4, m5, m6, m7, m8, m9, m10, m11, m12, m13, m14, m15] 14) from HR.out 14 (by decide)) rv0).trans K7.out
    go_enter Try.func106, Try.ntmps106
    go_wp2
    go_ret
    exact ⟨rfl, BB.out⟩
  have K7 := Lib.hid h7
  clear h7
  cases h8 : feqP (mp [m0, m1, m2, m3, m4, m5, m6, m7, m8, m9, m10, m11, m12, m13, m14, m15] 10) 4607182418800017408
  · have K8 := Lib.hid h8
    clear h8
    have HH : Hid (flatP (mp [m0, m1, m2, m3, m4, m5, m6, m7, m8, m9, m10, m11, m12, m13, m14, m15]) = false) := Lib.hid (by unfold flatP; rw [K0.out, K1.out, K2.out, K3.out, K4.out, K5.out, K6.out, K7.out, K8.out]; simp)
    rw [HH.out]
    have e0 : (FloatKind.f64.format.order m2 0 == some Ordering.eq) = true := (RV.eq_ (show RV m2 (mp [m0, m1, m2, m3, m4, m5, m6, m7, m8, m9, m10, m11, m12, m13, m14, m15] 2) from HR.out 2 (by decide)) rv0).trans K0.out
    have e1 : (FloatKind.f64.format.order m3 0 == some Ordering.eq) = true := (RV.eq_ (show RV m3 (mp [m0, m1, m2, m3, m4, m5, m6, m7, m8, m9, m10, m11, m12, m13, m14, m15] 3) from HR.out 3 (by decide)) rv0).trans K1.out
    have e2 : (FloatKind.f64.format.order m6 0 == some Ordering.eq) = true := (RV.eq_ (show RV m6 (mp [m0, m1, m2, m3, m4, m5, m6, m7, m8, m9, m10, m11, m12, m13, m14, m15] 6) from HR.out 6 (by decide)) rv0).trans K2.out
    have e3 : (FloatKind.f64.format.order m7 0 == some Ordering.eq) = true := (RV.eq_ (show RV m7 (mp [m0, m1, m2, m3, m4, m5, m6, m7, m8, m9, m10, m11, m12, m13, m14, m15] 7) from HR.out 7 (by decide)) rv0).trans K3.out
    have e4 : (FloatKind.f64.format.order m8 0 == some Ordering.eq) = true := (RV.eq_ (show RV m8 (mp [m0, m1, m2, m3, m4, m5, m6, m7, m8, m9, m10, m11, m12, m13, m14, m15] 8) from HR.out 8 (by decide)) rv0).trans K4.out
    have e5 : (FloatKind.f64.format.order m9 0 == some Ordering.eq) = true := (RV.eq_ (show RV m9 (mp [m0, m1, m2, m3, m4, m5, m6, m7, m8, m9, m10, m11, m12, m13, m14, m15] 9) from HR.out 9 (by decide)) rv0).trans K5.out
    have e6 : (FloatKind.f64.format.order m11 0 == some Ordering.eq) = true := (RV.eq_ (show RV m11 (mp [m0, m1, m2, m3, m4, m5, m6, m7, m8, m9, m10, m11, m12, m13, m14, m15] 11) from HR.out 11 (by decide)) rv0).trans K6.out
    have e7 : (FloatKind.f64.format.order m14 0 == some Ordering.eq) = true := (RV.eq_ (show RV m14 (mp [m0, m1, m2, m3, m4, m5, m6, m7, m8, m9, m10, m11, m12, m13, m14, m15] 14) from HR.out 14 (by decide)) rv0).trans K7.out
    have e8 : (FloatKind.f64.format.order m10 4607182418800017408 == some Ordering.eq) = false := (RV.eq_ (show RV m10 (mp [m0, m1, m2, m3, m4, m5, m6, m7, m8, m9, m10, m11, m12, m13, m14, m15] 10) from HR.out 10 (by decide)) rv1).trans K8.out
    go_enter Try.func106, Try.ntmps106
    go_wp2
    go_ret
    exact ⟨rfl, BB.out⟩
  have K8 := Lib.hid h8
  clear h8
  cases h9 : feqP (mp [m0, m1, m2, m3, m4, m5, m6, m7, m8, m9, m10, m11, m12, m13, m14, m15] 15) 4607182418800017408
  · have K9 := Lib.hid h9
    clear h9
    have HH : Hid (flatP (mp [m0, m1, m2, m3, m4, m5, m6, m7, m8, m9, m10, m11, m12, m13, m14, m15]) = false) := Lib.hid (by unfold flatP; rw [K0.out, K1.out, K2.out, K3.out, K4.out, K5.out, K6.out, K7.out, K8.out, K9.out]; simp)
    rw [HH.out]
    have e0 : (FloatKind.f64.format.order m2 0 == some Ordering.eq) = true := (RV.eq_ (show RV m2 (mp [m0, m1, m2, m3, m4, m5, m6, m7, m8, m9, m10, m11, m12, m13, m14, m15] 2) from HR.out 2 (by decide)) rv0).trans K0.out
    have e1 : (FloatKind.f64.format.order m3 0 == some Ordering.eq) = true := (RV.eq_ (show RV m3 (mp [m0, m1, m2, m3, m4, m5, m6, m7, m8, m9, m10, m11, m12, m13, m14, m15] 3) from HR.out 3 (by decide)) rv0).trans K1.out
    have e2 : (FloatKind.f64.format.order m6 0 == some Ordering.eq) = true := (RV.eq_ (show RV m6 (mp [m0, m1, m2, m3, m4, m5, m6, m7, m8, m9, m10, m11, m12, m13, m14, m15] 6) from HR.out 6 (by decide)) rv0).trans K2.out
    have e3 : (FloatKind.f64.format.order m7 0 == some Ordering.eq) = true := (RV.eq_ (show RV m7 (mp [m0, m1, m2, m3, m4, m5, m6, m7, m8, m9, m10, m11, m12, m13, m14, m15] 7) from HR.out 7 (by decide)) rv0).trans K3.out
    have e4 : (FloatKind.f64.format.order m8 0 == some Ordering.eq) = true := (RV.eq_ (show RV m8 (mp [m0, m1, m2, m3, m4, m5, m6, m7, m8, m9, m10, m11, m12, m13, m14, m15] 8) from HR.out 8 (by decide)) rv0).trans K4.out
    have e5 : (FloatKind.f64.format.order m9 0 == some Ordering.eq) = true := (RV.eq_ (show RV m9 (mp [m0, m1, m2, m3, m4, m5, m6, m7, m8, m9, m10, m11, m12, m13, m14, m15] 9) from HR.out 9 (by decide)) rv0).trans K5.out
    have e6 : (FloatKind.f64.format.order m11 0 == some Ordering.eq) = true := (RV.eq_ (show RV m11 (mp [m0, m1, m2, m3, m4, m5, m6, m7, m8, m9, m10, m11, m12, m13, m14, m15] 11) from HR.out 11 (by decide)) rv0).trans K6.out
    have e7 : (FloatKind.f64.format.order m14 0 == some Ordering.eq) = true := (RV.eq_ (show RV m14 (mp [m0, m1, m2, m3, m4, m5, m6, m7, m8, m9, m10, m11, m12, m13, m14, m15] 14) from HR.out 14 (by decide)) rv0).trans K7.out
    have e8 : (FloatKind.f64.format.order m10 4607182418800017408 == some Ordering.eq) = true := (RV.eq_ (show RV m10 (mp [m0, m1, m2, m3, m4, m5, m6, m7, m8, m9, m10, m11, m12, m13, m14, m15] 10) from HR.out 10 (by decide)) rv1).trans K8.out
    have e9 : (FloatKind.f64.format.order m15 4607182418800017408 == some Ordering.eq) = false := (RV.eq_ (show RV m15 (mp [m0, m1, m2, m3, m4, m5, m6, m7, m8, m9, m10, m11, m12, m13, m14, m15] 15) from HR.out 15 (by decide)) rv1).trans K9.out
    go_enter Try.func106, Try.ntmps106
    go_wp2
    go_ret
    exact ⟨rfl, BB.out⟩
  have K9 := Lib.hid h9
  clear h9
  have HH : Hid (flatP (mp [m0, m1, m2, m3, m4, m5, m6, m7, m8, m9, m10, m11, m12, m13, m14, m15]) = true) := Lib.hid (by unfold flatP; rw [K0.out, K1.out, K2.out, K3.out, K4.out, K5.out, K6.out, K7.out, K8.out, K9.out]; rfl)
  rw [HH.out]
  have e0 : (FloatKind.f64.format.order m2 0 == some Ordering.eq) = true := (RV.eq_ (show RV m2 (mp [m0, m1, m2, m3, m4, m5, m6, m7, m8, m9, m10, m11, m12, m13, m14, m15] 2) from HR.out 2 (by decide)) rv0).trans K0.out
  have e1 : (FloatKind.f64.format.order m3 0 == some Ordering.eq) = true := (RV.eq_ (show RV m3 (mp [m0, m1, m2, m3, m4, m5, m6, m7, m8, m9, m10, m11, m12, m13, m14, m15] 3) from HR.out 3 (by decide)) rv0).trans K1.out
  have e2 : (FloatKind.f64.format.order m6 0 == some Ordering.eq) = true := (RV.eq_ (show RV m6 (mp [m0, m1, m2, m3, m4, m5, m6, m7, m8, m9, m10, m11, m12, m13, m14, m15] 6) from HR.out 6 (by decide)) rv0).trans K2.out
  have e3 : (FloatKind.f64.format.order m7 0 == some Ordering.eq) = true := (RV.eq_ (show RV m7 (mp [m0, m1, m2, m3, m4, m5, m6, m7, m8, m9, m10, m11, m12, m13, m14, m15] 7) from HR.out 7 (by decide)) rv0).trans K3.out
  have e4 : (FloatKind.f64.format.order m8 0 == some Ordering.eq) = true := (RV.eq_ (show RV m8 (mp [m0, m1, m2, m3, m4, m5, m6, m7, m8, m9, m10, m11, m12, m13, m14, m15] 8) from HR.out 8 (by decide)) rv0).trans K4.out
  have e5 : (FloatKind.f64.format.order m9 0 == some Ordering.eq) = true := (RV.eq_ (show RV m9 (mp [m0, m1, m2, m3, m4, m5, m6, m7, m8, m9, m10, m11, m12, m13, m14, m15] 9) from HR.out 9 (by decide)) rv0).trans K5.out
  have e6 : (FloatKind.f64.format.order m11 0 == some Ordering.eq) = true := (RV.eq_ (show RV m11 (mp [m0, m1, m2, m3, m4, m5, m6, m7, m8, m9, m10, m11, m12, m13, m14, m15] 11) from HR.out 11 (by decide)) rv0).trans K6.out
  have e7 : (FloatKind.f64.format.order m14 0 == some Ordering.eq) = true := (RV.eq_ (show RV m14 (mp [m0, m1, m2, m3, m4, m5, m6, m7, m8, m9, m10, m11, m12, m13, m14, m15] 14) from HR.out 14 (by decide)) rv0).trans K7.out
  have e8 : (FloatKind.f64.format.order m10 4607182418800017408 == some Ordering.eq) = true := (RV.eq_ (show RV m10 (mp [m0, m1, m2, m3, m4, m5, m6, m7, m8, m9, m10, m11, m12, m13, m14, m15] 10) from HR.out 10 (by decide)) rv1).trans K8.out
  have e9 : (FloatKind.f64.format.order m15 4607182418800017408 == some Ordering.eq) = true := (RV.eq_ (show RV m15 (mp [m0, m1, m2, m3, m4, m5, m6, m7, m8, m9, m10, m11, m12, m13, m14, m15] 15) from HR.out 15 (by decide)) rv1).trans K9.out
  go_enter Try.func106, Try.ntmps106
  go_wp2
  go_ret
  exact ⟨rfl, BB.out⟩
theorem k106 {ms : List Nat} (hm : MU ms) (w : World) : Calls Try.prog 106 #[.agg (ms.map (Value.float .f64)).toArray] w fun e w' => e = .returned (.bool (flatP (mp ms))) ∧ Below w.heap.size w w' := by
  obtain ⟨m0, m1, m2, m3, m4, m5, m6, m7, m8, m9, m10, m11, m12, m13, m14, m15, rfl⟩ := mu_list hm.1
  exact k106' m0 m1 m2 m3 m4 m5 m6 m7 m8 m9 m10 m11 m12 m13 m14 m15 hm w
set_option maxRecDepth 100000 in
set_option maxHeartbeats 2000000 in
theorem k105' (m0 m1 m2 m3 m4 m5 m6 m7 m8 m9 m10 m11 m12 m13 m14 m15 : Nat) (hm : MU [m0, m1, m2, m3, m4, m5, m6, m7, m8, m9, m10, m11, m12, m13, m14, m15]) (w : World) :
    Calls Try.prog 105 #[.agg #[.float .f64 m0, .float .f64 m1, .float .f64 m2, .float .f64 m3, .float .f64 m4, .float .f64 m5, .float .f64 m6, .float .f64 m7, .float .f64 m8, .float .f64 m9, .float .f64 m10, .float .f64 m11, .float .f64 m12, .float .f64 m13, .float .f64 m14, .float .f64 m15]] w fun e w' => e = .returned (.bool (flatP (mp [m0, m1, m2, m3, m4, m5, m6, m7, m8, m9, m10, m11, m12, m13, m14, m15]))) ∧ Below w.heap.size w w' := by
  have HR : Hid (∀ j, j < 16 → RV ([m0, m1, m2, m3, m4, m5, m6, m7, m8, m9, m10, m11, m12, m13, m14, m15].getD j 0) (mp [m0, m1, m2, m3, m4, m5, m6, m7, m8, m9, m10, m11, m12, m13, m14, m15] j)) := Lib.hid (fun j hj => by
    obtain ⟨x, h1, h2⟩ := hm.get hj
    rw [List.getD_eq_getElem?_getD, h1]; exact h2)
  have BB := Lib.hid ((Below.refl w.heap.size w).alloc (Nat.le_refl _) (.cells #[.float .f64 m0, .float .f64 m1, .float .f64 m2, .float .f64 m3, .float .f64 m4, .float .f64 m5, .float .f64 m6, .float .f64 m7, .float .f64 m8, .float .f64 m9, .float .f64 m10, .float .f64 m11, .float .f64 m12, .float .f64 m13, .float .f64 m14, .float .f64 m15] 80))
  clear hm
  cases h0 : feqP (mp [m0, m1, m2, m3, m4, m5, m6, m7, m8, m9, m10, m11, m12, m13, m14, m15] 2) 0
  · have K0 := Lib.hid h0
    clear h0
    have HH : Hid (flatP (mp [m0, m1, m2, m3, m4, m5, m6, m7, m8, m9, m10, m11, m12, m13, m14, m15]) = false) := Lib.hid (by unfold flatP; rw [K0.out]; simp)
    rw [HH.out]
    have e0 : (FloatKind.f64.format.order m2 0 != some Ordering.eq) = true := (RV.ne_ (show RV m2 (mp [m0, m1, m2, m3, m4, m5, m6, m7, m8, m9, m10, m11, m12, m13, m14, m15] 2) from HR.out 2 (by decide)) rv0).trans (by rw [K0.out]; rfl)
    skip
    have i0 : ∀ w, (Instr.index 161 (.agg #[.int .i64 2, .int .i64 3, .int .i64 6, .int .i64 7, .int .i64 8, .int .i64 9, .int .i64 11, .int .i64 14]) (.int .i64 0)).run Try.prog w = .ok (.int .i64 2) w := fun _ => by kernel_rfl
    have i1 : ∀ w, (Instr.index 161 (.agg #[.int .i64 2, .int .i64 3, .int .i64 6, .int .i64 7, .int .i64 8, .int .i64 9, .int .i64 11, .int .i64 14]) (.int .i64 1)).run Try.prog w = .ok (.int .i64 3) w := fun _ => by kernel_rfl
    have i2 : ∀ w, (Instr.index 161 (.agg #[.int .i64 2, .int .i64 3, .int .i64 6, .int .i64 7, .int .i64 8, .int .i64 9, .int .i64 11, .int .i64 14]) (.int .i64 2)).run Try.prog w = .ok (.int .i64 6) w := fun _ => by kernel_rfl
    have i3 : ∀ w, (Instr.index 161 (.agg #[.int .i64 2, .int .i64 3, .int .i64 6, .int .i64 7, .int .i64 8, .int .i64 9, .int .i64 11, .int .i64 14]) (.int .i64 3)).run Try.prog w = .ok (.int .i64 7) w := fun _ => by kernel_rfl
    have i4 : ∀ w, (Instr.index 161 (.agg #[.int .i64 2, .int .i64 3, .int .i64 6, .int .i64 7, .int .i64 8, .int .i64 9, .int .i64 11, .int .i64 14]) (.int .i64 4)).run Try.prog w = .ok (.int .i64 8) w := fun _ => by kernel_rfl
    have i5 : ∀ w, (Instr.index 161 (.agg #[.int .i64 2, .int .i64 3, .int .i64 6, .int .i64 7, .int .i64 8, .int .i64 9, .int .i64 11, .int .i64 14]) (.int .i64 5)).run Try.prog w = .ok (.int .i64 9) w := fun _ => by kernel_rfl
    have i6 : ∀ w, (Instr.index 161 (.agg #[.int .i64 2, .int .i64 3, .int .i64 6, .int .i64 7, .int .i64 8, .int .i64 9, .int .i64 11, .int .i64 14]) (.int .i64 6)).run Try.prog w = .ok (.int .i64 11) w := fun _ => by kernel_rfl
    have i7 : ∀ w, (Instr.index 161 (.agg #[.int .i64 2, .int .i64 3, .int .i64 6, .int .i64 7, .int .i64 8, .int .i64 9, .int .i64 11, .int .i64 14]) (.int .i64 7)).run Try.prog w = .ok (.int .i64 14) w := fun _ => by kernel_rfl
    go_enter Try.func105, Try.ntmps105
    go_wp2_with fail
    refine wp_loop_rounds 1 ?_
    rw [rounds_succ]
    go_wp2_with fail
    go_ret
    exact ⟨rfl, BB.out⟩
  have K0 := Lib.hid h0
  clear h0
  cases h1 : feqP (mp [m0, m1, m2, m3, m4, m5, m6, m7, m8, m9, m10, m11, m12, m13, m14, m15] 3) 0
  · have K1 := Lib.hid h1
    clear h1
    have HH : Hid (flatP (mp [m0, m1, m2, m3, m4, m5, m6, m7, m8, m9, m10, m11, m12, m13, m14, m15]) = false) := Lib.hid (by unfold flatP; rw [K0.out, K1.out]; simp)
    rw [HH.out]
    have e0 : (FloatKind.f64.format.order m2 0 != some Ordering.eq) = false := (RV.ne_ (show RV m2 (mp [m0, m1, m2, m3, m4, m5, m6, m7, m8, m9, m10, m11, m12, m13, m14, m15] 2) from HR.out 2 (by decide)) rv0).trans (by rw [K0.out]; rfl)
    have e1 : (FloatKind.f64.format.order m3 0 != some Ordering.eq) = true := (RV.ne_ (show RV m3 (mp [m0, m1, m2, m3, m4, m5, m6, m7, m8, m9, m10, m11, m12, m13, m14, m15] 3) from HR.out 3 (by decide)) rv0).trans (by rw [K1.out]; rfl)
    skip
    have i0 : ∀ w, (Instr.index 161 (.agg #[.int .i64 2, .int .i64 3, .int .i64 6, .int .i64 7, .int .i64 8, .int .i64 9, .int .i64 11, .int .i64 14]) (.int .i64 0)).run Try.prog w = .ok (.int .i64 2) w := fun _ => by kernel_rfl
    have i1 : ∀ w, (Instr.index 161 (.agg #[.int .i64 2, .int .i64 3, .int .i64 6, .int .i64 7, .int .i64 8, .int .i64 9, .int .i64 11, .int .i64 14]) (.int .i64 1)).run Try.prog w = .ok (.int .i64 3) w := fun _ => by kernel_rfl
    have i2 : ∀ w, (Instr.index 161 (.agg #[.int .i64 2, .int .i64 3, .int .i64 6, .int .i64 7, .int .i64 8, .int .i64 9, .int .i64 11, .int .i64 14]) (.int .i64 2)).run Try.prog w = .ok (.int .i64 6) w := fun _ => by kernel_rfl
    have i3 : ∀ w, (Instr.index 161 (.agg #[.int .i64 2, .int .i64 3, .int .i64 6, .int .i64 7, .int .i64 8, .int .i64 9, .int .i64 11, .int .i64 14]) (.int .i64 3)).run Try.prog w = .ok (.int .i64 7) w := fun _ => by kernel_rfl
    have i4 : ∀ w, (Instr.index 161 (.agg #[.int .i64 2, .int .i64 3, .int .i64 6, .int .i64 7, .int .i64 8, .int .i64 9, .int .i64 11, .int .i64 14]) (.int .i64 4)).run Try.prog w = .ok (.int .i64 8) w := fun _ => by kernel_rfl
    have i5 : ∀ w, (Instr.index 161 (.agg #[.int .i64 2, .int .i64 3, .int .i64 6, .int .i64 7, .int .i64 8, .int .i64 9, .int .i64 11, .int .i64 14]) (.int .i64 5)).run Try.prog w = .ok (.int .i64 9) w := fun _ => by kernel_rfl
    have i6 : ∀ w, (Instr.index 161 (.agg #[.int .i64 2, .int .i64 3, .int .i64 6, .int .i64 7, .int .i64 8, .int .i64 9, .int .i64 11, .int .i64 14]) (.int .i64 6)).run Try.prog w = .ok (.int .i64 11) w := fun _ => by kernel_rfl
    have i7 : ∀ w, (Instr.index 161 (.agg #[.int .i64 2, .int .i64 3, .int .i64 6, .int .i64 7, .int .i64 8, .int .i64 9, .int .i64 11, .int .i64 14]) (.int .i64 7)).run Try.prog w = .ok (.int .i64 14) w := fun _ => by kernel_rfl
    go_enter Try.func105, Try.ntmps105
    go_wp2_with fail
    refine wp_loop_rounds 2 ?_
    rw [rounds_succ]
    go_wp2_with fail
    rw [rounds_succ]
    go_wp2_with fail
    go_ret
    exact ⟨rfl, BB.out⟩
  have K1 := Lib.hid h1
  clear h1
  cases h2 : feqP (mp [m0, m1, m2, m3, m4, m5, m6, m7, m8, m9, m10, m11, m12, m13, m14, m15] 6) 0
  · have K2 := Lib.hid h2
    clear h2
    have HH : Hid (flatP (mp [m0, m1, m2, m3, m4, m5, m6, m7, m8, m9, m10, m11, m12, m13, m14, m15]) = false) := Lib.hid (by unfold flatP; rw [K0.out, K1.out, K2.out]; simp)
    rw [HH.out]
    have e0 : (FloatKind.f64.format.order m2 0 != some Ordering.eq) = false := (RV.ne_ (show RV m2 (mp [m0, m1, m2, m3, m4, m5, m6, m7, m8, m9, m10, m11, m12, m13, m14, m15] 2) from HR.out 2 (by decide)) rv0).trans (by rw [K0.out]; rfl)
    have e1 : (FloatKind.f64.format.order m3 0 != some Ordering.eq) = false := (RV.ne_ (show RV m3 (mp [m0, m1, m2, m3, m4, m5, m6, m7, m8, m9, m10, m11, m12, m13, m14, m15] 3) from HR.out 3 (by decide)) rv0).trans (by rw [K1.out]; rfl)
    have e2 : (FloatKind.f64.format.order m6 0 != some Ordering.eq) = true := (RV.ne_ (show RV m6 (mp [m0, m1, m2, m3, m4, m5, m6, m7, m8, m9, m10, m11, m12, m13, m14, m15] 6) from HR.out 6 (by decide)) rv0).trans (by rw [K2.out]; rfl)
    skip
    have i0 : ∀ w, (Instr.index 161 (.agg #[.int .i64 2, .int .i64 3, .int .i64 6, .int .i64 7, .int .i64 8, .int .i64 9, .int .i64 11, .int .i64 14]) (.int .i64 0)).run Try.prog w = .ok (.int .i64 2) w := fun _ => by kernel_rfl
    have i1 : ∀ w, (Instr.index 161 (.agg #[.int .i64 2, .int .i64 3, .int .i64 6, .int .i64 7, .int .i64 8, .int .i64 9, .int .i64 11, .int .i64 14]) (.int .i64 1)).run Try.prog w = .ok (.int .i64 3) w := fun _ => by kernel_rfl
    have i2 : ∀ w, (Instr.index 161 (.agg #[.int .i64 2, .int .i64 3, .int .i64 6, .int .i64 7, .int .i64 8, .int .i64 9, .int .i64 11, .int .i64 14]) (.int .i64 2)).run Try.prog w = .ok (.int .i64 6) w := fun _ => by kernel_rfl
    have i3 : ∀ w, (Instr.index 161 (.agg #[.int .i64 2, .int .i64 3, .int .i64 6, .int .i64 7, .int .i64 8, .int .i64 9, .int .i64 11, .int .i64 14]) (.int .i64 3)).run Try.prog w = .ok (.int .i64 7) w := fun _ => by kernel_rfl
    have i4 : ∀ w, (Instr.index 161 (.agg #[.int .i64 2, .int .i64 3, .int .i64 6, .int .i64 7, .int .i64 8, .int .i64 9, .int .i64 11, .int .i64 14]) (.int .i64 4)).run Try.prog w = .ok (.int .i64 8) w := fun _ => by kernel_rfl
    have i5 : ∀ w, (Instr.index 161 (.agg #[.int .i64 2, .int .i64 3, .int .i64 6, .int .i64 7, .int .i64 8, .int .i64 9, .int .i64 11, .int .i64 14]) (.int .i64 5)).run Try.prog w = .ok (.int .i64 9) w := fun _ => by kernel_rfl
    have i6 : ∀ w, (Instr.index 161 (.agg #[.int .i64 2, .int .i64 3, .int .i64 6, .int .i64 7, .int .i64 8, .int .i64 9, .int .i64 11, .int .i64 14]) (.int .i64 6)).run Try.prog w = .ok (.int .i64 11) w := fun _ => by kernel_rfl
    have i7 : ∀ w, (Instr.index 161 (.agg #[.int .i64 2, .int .i64 3, .int .i64 6, .int .i64 7, .int .i64 8, .int .i64 9, .int .i64 11, .int .i64 14]) (.int .i64 7)).run Try.prog w = .ok (.int .i64 14) w := fun _ => by kernel_rfl
    go_enter Try.func105, Try.ntmps105
    go_wp2_with fail
    refine wp_loop_rounds 3 ?_
    rw [rounds_succ]
    go_wp2_with fail
    rw [rounds_succ]
    go_wp2_with fail
    rw [rounds_succ]
    go_wp2_with fail
    go_ret
    exact ⟨rfl, BB.out⟩
  have K2 := Lib.hid h2
  clear h2
  cases h3 : feqP (mp [m0, m1, m2, m3, m4, m5, m6, m7, m8, m9, m10, m11, m12, m13, m14, m15] 7) 0
  · have K3 := Lib.hid h3
    clear h3
    have HH : Hid (flatP (mp [m0, m1, m2, m3, m4, m5, m6, m7, m8, m9, m10, m11, m12, m13, m14, m15]) = false) := Lib.hid (by unfold flatP; rw [K0.out, K1.out, K2.out, K3.out]; simp)
    rw [HH.out]
    have e0 : (FloatKind.f64.format.order m2 0 != some Ordering.eq) = false := (RV.ne_ (show RV m2 (mp [m0, m1, m2, m3, m4, m5, m6, m7, m8, m9, m10, m11, m12, m13, m14, m15] 2) from HR.out 2 (by decide)) rv0).trans (by rw [K0.out]; rfl)
    have e1 : (FloatKind.f64.format.order m3 0 != some Ordering.eq) = false := (RV.ne_ (show RV m3 (mp [m0, m1, m2, m3, m4, m5, m6, m7, m8, m9, m10, m11, m12, m13, m14, m15] 3) from HR.out 3 (by decide)) rv0).trans (by rw [K1.out]; rfl)
    have e2 : (FloatKind.f64.format.order m6 0 != some Ordering.eq) = false := (RV.ne_ (show RV m6 (mp [m0, m1, m2, m3, m4, m5, m6, m7, m8, m9, m10, m11, m12, m13, m14, m15] 6) from HR.out 6 (by decide)) rv0).trans (by rw [K2.out]; rfl)
    have e3 : (FloatKind.f64.format.order m7 0 != some Ordering.eq) = true := (RV.ne_ (show RV m7 (mp [m0, m1, m2, m3, m4, m5, m6, m7, m8, m9, m10, m11, m12, m13, m14, m15] 7) from HR.out 7 (by decide)) rv0).trans (by rw [K3.out]; rfl)
    skip
    have i0 : ∀ w, (Instr.index 161 (.agg #[.int .i64 2, .int .i64 3, .int .i64 6, .int .i64 7, .int .i64 8, .int .i64 9, .int .i64 11, .int .i64 14]) (.int .i64 0)).run Try.prog w = .ok (.int .i64 2) w := fun _ => by kernel_rfl
    have i1 : ∀ w, (Instr.index 161 (.agg #[.int .i64 2, .int .i64 3, .int .i64 6, .int .i64 7, .int .i64 8, .int .i64 9, .int .i64 11, .int .i64 14]) (.int .i64 1)).run Try.prog w = .ok (.int .i64 3) w := fun _ => by kernel_rfl
    have i2 : ∀ w, (Instr.index 161 (.agg #[.int .i64 2, .int .i64 3, .int .i64 6, .int .i64 7, .int .i64 8, .int .i64 9, .int .i64 11, .int .i64 14]) (.int .i64 2)).run Try.prog w = .ok (.int .i64 6) w := fun _ => by kernel_rfl
    have i3 : ∀ w, (Instr.index 161 (.agg #[.int .i64 2, .int .i64 3, .int .i64 6, .int .i64 7, .int .i64 8, .int .i64 9, .int .i64 11, .int .i64 14]) (.int .i64 3)).run Try.prog w = .ok (.int .i64 7) w := fun _ => by kernel_rfl
    have i4 : ∀ w, (Instr.index 161 (.agg #[.int .i64 2, .int .i64 3, .int .i64 6, .int .i64 7, .int .i64 8, .int .i64 9, .int .i64 11, .int .i64 14]) (.int .i64 4)).run Try.prog w = .ok (.int .i64 8) w := fun _ => by kernel_rfl
    have i5 : ∀ w, (Instr.index 161 (.agg #[.int .i64 2, .int .i64 3, .int .i64 6, .int .i64 7, .int .i64 8, .int .i64 9, .int .i64 11, .int .i64 14]) (.int .i64 5)).run Try.prog w = .ok (.int .i64 9) w := fun _ => by kernel_rfl
    have i6 : ∀ w, (Instr.index 161 (.agg #[.int .i64 2, .int .i64 3, .int .i64 6, .int .i64 7, .int .i64 8, .int .i64 9, .int .i64 11, .int .i64 14]) (.int .i64 6)).run Try.prog w = .ok (.int .i64 11) w := fun _ => by kernel_rfl
    have i7 : ∀ w, (Instr.index 161 (.agg #[.int .i64 2, .int .i64 3, .int .i64 6, .int .i64 7, .int .i64 8, .int .i64 9, .int .i64 11, .int .i64 14]) (.int .i64 7)).run Try.prog w = .ok (.int .i64 14) w := fun _ => by kernel_rfl
    go_enter Try.func105, Try.ntmps105
    go_wp2_with fail
    refine wp_loop_rounds 4 ?_
    rw [rounds_succ]
    go_wp2_with fail
    rw [rounds_succ]
    go_wp2_with fail
    rw [rounds_succ]
    go_wp2_with fail
    rw [rounds_succ]
    go_wp2_with fail
    go_ret
    exact ⟨rfl, BB.out⟩
  have K3 := Lib.hid h3
  clear h3
  cases h4 : feqP (mp [m0, m1, m2, m3, m4, m5, m6, m7, m8, m9, m10, m11, m12, m13, m14, m15] 8) 0
  · have K4 := Lib.hid h4
    clear h4
    have HH : Hid (flatP (mp [m0, m1, m2, m3, m4, m5, m6, m7, m8, m9, m10, m11, m12, m13, m14, m15]) = false) := Lib.hid (by unfold flatP; rw [K0.out, K1.out, K2.out, K3.out, K4.out]; simp)
    rw [HH.out]
    have e0 : (FloatKind.f64.format.order m2 0 != some Ordering.eq) = false := (RV.ne_ (show RV m2 (mp [m0, m1, m2, m3, m4, m5, m6, m7, m8, m9, m10, m11, m12, m13, m14, m15] 2) from HR.out 2 (by decide)) rv0).trans (by rw [K0.out]; rfl)
    have e1 : (FloatKind.f64.format.order m3 0 != some Ordering.eq) = false := (RV.ne_ (show RV m3 (mp [m0, m1, m2, m3, m4, m5, m6, m7, m8, m9, m10, m11, m12, m13, m14, m15] 3) from HR.out 3 (by decide)) rv0).trans (by rw [K1.out]; rfl)
    have e2 : (FloatKind.f64.format.order m6 0 != some Ordering.eq) = false := (RV.ne_ (show RV m6 (mp [m0, m1, m2, m3, m4, m5, m6, m7, m8, m9, m10, m11, m12, m13, m14, m15] 6) from HR.out 6 (by decide)) rv0).trans (by rw [K2.out]; rfl)
    have e3 : (FloatKind.f64.format.order m7 0 != some Ordering.eq) = false := (RV.ne_ (show RV m7 (mp [m0, m1, m2, m3, m4, m5, m6, m7, m8, m9, m10, m11, m12, m13, m14, m15] 7) from HR.out 7 (by decide)) rv0).trans (by rw [K3.out]; rfl)
    have e4 : (FloatKind.f64.format.order m8 0 != some Ordering.eq) = true := (RV.ne_ (show RV m8 (mp [m0, m1, m2, m3, m4, m5, m6, m7, m8, m9, m10, m11, m12, m13, m14, m15] 8) from HR.out 8 (by decide)) rv0).trans (by rw [K4.out]; rfl)
    skip
    have i0 : ∀ w, (Instr.index 161 (.agg #[.int .i64 2, .int .i64 3, .int .i64 6, .int .i64 7, .int .i64 8, .int .i64 9, .int .i64 11, .int .i64 14]) (.int .i64 0)).run Try.prog w = .ok (.int .i64 2) w := fun _ => by kernel_rfl
    have i1 : ∀ w, (Instr.index 161 (.agg #[.int .i64 2, .int .i64 3, .int .i64 6, .int .i64 7, .int .i64 8, .int .i64 9, .int .i64 11, .int .i64 14]) (.int .i64 1)).run Try.prog w = .ok (.int .i64 3) w := fun _ => by kernel_rfl
    have i2 : ∀ w, (Instr.index 161 (.agg #[.int .i64 2, .int .i64 3, .int .i64 6, .int .i64 7, .int .i64 8, .int .i64 9, .int .i64 11, .int .i64 14]) (.int .i64 2)).run Try.prog w = .ok (.int .i64 6) w := fun _ => by kernel_rfl
    have i3 : ∀ w, (Instr.index 161 (.agg #[.int .i64 2, .int .i64 3, .int .i64 6, .int .i64 7, .int .i64 8, .int .i64 9, .int .i64 11, .int .i64 14]) (.int .i64 3)).run Try.prog w = .ok (.int .i64 7) w := fun _ => by kernel_rfl
    have i4 : ∀ w, (Instr.index 161 (.agg #[.int .i64 2, .int .i64 3, .int .i64 6, .int .i64 7, .int .i64 8, .int .i64 9, .int .i64 11, .int .i64 14]) (.int .i64 4)).run Try.prog w = .ok (.int .i64 8) w := fun _ => by kernel_rfl
    have i5 : ∀ w, (Instr.index 161 (.agg #[.int .i64 2, .int .i64 3, .int .i64 6, .int .i64 7, .int .i64 8, .int .i64 9, .int .i64 11, .int .i64 14]) (.int .i64 5)).run Try.prog w = .ok (.int .i64 9) w := fun _ => by kernel_rfl
    have i6 : ∀ w, (Instr.index 161 (.agg #[.int .i64 2, .int .i64 3, .int .i64 6, .int .i64 7, .int .i64 8, .int .i64 9, .int .i64 11, .int .i64 14]) (.int .i64 6)).run Try.prog w = .ok (.int .i64 11) w := fun _ => by kernel_rfl
    have i7 : ∀ w, (Instr.index 161 (.agg #[.int .i64 2, .int .i64 3, .int .i64 6, .int .i64 7, .int .i64 8, .int .i64 9, .int .i64 11, .int .i64 14]) (.int .i64 7)).run Try.prog w = .ok (.int .i64 14) w := fun _ => by kernel_rfl
    go_enter Try.func105, Try.ntmps105
    go_wp2_with fail
    refine wp_loop_rounds 5 ?_
    rw [rounds_succ]
    go_wp2_with fail
    rw [rounds_succ]
    go_wp2_with fail
    rw [rounds_succ]
    go_wp2_with fail
    rw [rounds_succ]
    go_wp2_with fail
    rw [rounds_succ]
    go_wp2_with fail
    go_ret
    exact ⟨rfl, BB.out⟩
  have K4 := Lib.hid h4
  clear h4
  cases h5 : feqP (mp [m0, m1, m2, m3, m4, m5, m6, m7, m8, m9, m10, m11, m12, m13, m14, m15] 9) 0
  · have K5 := Lib.hid h5
    clear h5
    have HH : Hid (flatP (mp [m0, m1, m2, m3, m4, m5, m6, m7, m8, m9, m10, m11, m12, m13, m14, m15]) = false) := Lib.hid (by unfold flatP; rw [K0.out, K1.out, K2.out, K3.out, K4.out, K5.out]; simp)
    rw [HH.out]
    have e0 : (FloatKind.f64.format.order m2 0 != some Ordering.eq) = false := (RV.ne_ (show RV m2 (mp [m0, m1, m2, m3, m4, m5, m6, m7, m8, m9, m10, m11, m12, m13, m14, m15] 2) from HR.out 2 (by decide)) rv0).trans (by rw [K0.out]; rfl)
    have e1 : (FloatKind.f64.format.order m3 0 != some Ordering.eq) = false := (RV.ne_ (show RV m3 (mp [m0, m1, m2, m3, m4, m5, m6, m7, m8, m9, m10, m11, m12, m13, m14, m15] 3) from HR.out 3 (by decide)) rv0).trans (by rw [K1.out]; rfl)
    have e2 : (FloatKind.f64.format.order m6 0 != some Ordering.eq) = false := (RV.ne_ (show RV m6 (mp [m0, m1, m2, m3, m4, m5, m6, m7, m8, m9, m10, m11, m12, m13, m14, m15] 6) from HR.out 6 (by decide)) rv0).trans (by rw [K2.out]; rfl)
    have e3 : (FloatKind.f64.format.order m7 0 != some Ordering.eq) = false := (RV.ne_ (show RV m7 (mp [m0, m1, m2, m3, m4, m5, m6, m7, m8, m9, m10, m11, m12, m13, m14, m15] 7) from HR.out 7 (by decide)) rv0).trans (by rw [K3.out]; rfl)
    have e4 : (FloatKind.f64.format.order m8 0 != some Ordering.eq) = false := (RV.ne_ (show RV m8 (mp [m0, m1, m2, m3, m4, m5, m6, m7, m8, m9, m10, m11, m12, m13, m14, m15] 8) from HR.out 8 (by decide)) rv0).trans (by rw [K4.out]; rfl)
    have e5 : (FloatKind.f64.format.order m9 0 != some Ordering.eq) = true := (RV.ne_ (show RV m9 (mp [m0, m1, m2, m3, m4, m5, m6, m7, m8, m9, m10, m11, m12, m13, m14, m15] 9) from HR.out 9 (by decide)) rv0).trans (by rw [K5.out]; rfl)
    skip
    have i0 : ∀ w, (Instr.index 161 (.agg #[.int .i64 2, .int .i64 3, .int .i64 6, .int .i64 7, .int .i64 8, .int .i64 9, .int .i64 11, .int .i64 14]) (.int .i64 0)).run Try.prog w = .ok (.int .i64 2) w := fun _ => by kernel_rfl
    have i1 : ∀ w, (Instr.index 161 (.agg #[.int .i64 2, .int .i64 3, .int .i64 6, .int .i64 7, .int .i64 8, .int .i64 9, .int .i64 11, .int .i64 14]) (.int .i64 1)).run Try.prog w = .ok (.int .i64 3) w := fun _ => by kernel_rfl
    have i2 : ∀ w, (Instr.index 161 (.agg #[.int .i64 2, .int .i64 3, .int .i64 6, .int .i64 7, .int .i64 8, .int .i64 9, .int .i64 11, .int .i64 14]) (.int .i64 2)).run Try.prog w = .ok (.int .i64 6) w := fun _ => by kernel_rfl
    have i3 : ∀ w, (Instr.index 161 (.agg #[.int .i64 2, .int .i64 3, .int .i64 6, .int .i64 7, .int .i64 8, .int .i64 9, .int .i64 11, .int .i64 14]) (.int .i64 3)).run Try.prog w = .ok (.int .i64 7) w := fun _ => by kernel_rfl
    have i4 : ∀ w, (Instr.index 161 (.agg #[.int .i64 2, .int .i64 3, .int .i64 6, .int .i64 7, .int .i64 8, .int .i64 9, .int .i64 11, .int .i64 14]) (.int .i64 4)).run Try.prog w = .ok (.int .i64 8) w := fun _ => by kernel_rfl
    have i5 : ∀ w, (Instr.index 161 (.agg #[.int .i64 2, .int .i64 3, .int .i64 6, .int .i64 7, .int .i64 8, .int .i64 9, .int .i64 11, .int .i64 14]) (.int .i64 5)).run Try.prog w = .ok (.int .i64 9) w := fun _ => by kernel_rfl
    have i6 : ∀ w, (Instr.index 161 (.agg #[.int .i64 2, .int .i64 3, .int .i64 6, .int .i64 7, .int .i64 8, .int .i64 9, .int .i64 11, .int .i64 14]) (.int .i64 6)).run Try.prog w = .ok (.int .i64 11) w := fun _ => by kernel_rfl
    have i7 : ∀ w, (Instr.index 161 (.agg #[.int .i64 2, .int .i64 3, .int .i64 6, .int .i64 7, .int .i64 8, .int .i64 9, .int .i64 11, .int .i64 14]) (.int .i64 7)).run Try.prog w = .ok (.int .i64 14) w := fun _ => by kernel_rfl
    go_enter Try.func105, Try.ntmps105
    go_wp2_with fail
    refine wp_loop_rounds 6 ?_
    rw [rounds_succ]
    go_wp2_with fail
    rw [rounds_succ]
    go_wp2_with fail
    rw [rounds_succ]
    go_wp2_with fail
    rw [rounds_succ]
    go_wp2_with fail
    rw [rounds_succ]
    go_wp2_with fail
    rw [rounds_succ]
    go_wp2_with fail
    go_ret
    exact ⟨rfl, BB.out⟩
  have K5 := Lib.hid h5
  clear h5
  cases h6 : feqP (mp [m0, m1, m2, m3, m4, m5, m6, m7, m8, m9, m10, m11, m12, m13, m14, m15] 11) 0
  · have K6 := Lib.hid h6
    clear h6
    have HH : Hid (flatP (mp [m0, m1, m2, m3, m4, m5, m6, m7, m8, m9, m10, m11, m12, m13, m14, m15]) = false) := Lib.hid (by unfold flatP; rw [K0.out, K1.out, K2.out, K3.out, K4.out, K5.out, K6.out]; simp)
    rw [HH.out]
    have e0 : (FloatKind.f64.format.order m2 0 != some Ordering.eq) = false := (RV.ne_ (show RV m2 (mp [m0, m1, m2, m3, m4, m5, m6, m7, m8, m9, m10, m11, m12, m13, m14, m15] 2) from HR.out 2 (by decide)) rv0).trans (by rw [K0.out]; rfl)
    have e1 : (FloatKind.f64.format.order m3 0 != some Ordering.eq) = false := (RV.ne_ (show RV m3 (mp [m0, m1, m2, m3, m4, m5, m6, m7, m8, m9, m10, m11, m12, m13, m14, m15] 3) from HR.out 3 (by decide)) rv0).trans (by rw [K1.out]; rfl)
    have e2 : (FloatKind.f64.format.order m6 0 != some Ordering.eq) = false := (RV.ne_ (show RV m6 (mp [m0, m1, m2, m3, m4, m5, m6, m7, m8, m9, m10, m11, m12, m13, m14, m15] 6) from HR.out 6 (by decide)) rv0).trans (by rw [K2.out]; rfl)
    have e3 : (FloatKind.f64.format.order m7 0 != some Ordering.eq) = false := (RV.ne_ (show RV m7 (mp [m0, m1, m2, m3, m4, m5, m6, m7, m8, m9, m10, m11, m12, m13, m14, m15] 7) from HR.out 7 (by decide)) rv0).trans (by rw [K3.out]; rfl)
    have e4 : (FloatKind.f64.format.order m8 0 != some Ordering.eq) = false := (RV.ne_ (show RV m8 (mp [m0, m1, m2, m3, m4, m5, m6, m7, m8, m9, m10, m11, m12, m13, m14, m15] 8) from HR.out 8 (by decide)) rv0).trans (by rw [K4.out]; rfl)
    have e5 : (FloatKind.f64.format.order m9 0 != some Ordering.eq) = false := (RV.ne_ (show RV m9 (mp [m0, m1, m2, m3, m4, m5, m6, m7, m8, m9, m10, m11, m12, m13, m14, m15] 9) from HR.out 9 (by decide)) rv0).trans (by rw [K5.out]; rfl)
    have e6 : (FloatKind.f64.format.order m11 0 != some Ordering.eq) = true := (RV.ne_ (show RV m11 (mp [m0, m1, m2, m3, m4, m5, m6, m7, m8, m9, m10, m11, m12, m13, m14, m15] 11) from HR.out 11 (by decide)) rv0).trans (by rw [K6.out]; rfl)
    skip
    have i0 : ∀ w, (Instr.index 161 (.agg #[.int .i64 2, .int .i64 3, .int .i64 6, .int .i64 7, .int .i64 8, .int .i64 9, .int .i64 11, .int .i64 14]) (.int .i64 0)).run Try.prog w = .ok (.int .i64 2) w := fun _ => by kernel_rfl
    have i1 : ∀ w, (Instr.index 161 (.agg #[.int .i64 2, .int .i64 3, .int .i64 6, .int .i64 7, .int .i64 8, .int .i64 9, .int .i64 11, .int .i64 14]) (.int .i64 1)).run Try.prog w = .ok (.int .i64 3) w := fun _ => by kernel_rfl
    have i2 : ∀ w, (Instr.index 161 (.agg #[.int .i64 2, .int .i64 3, .int .i64 6, .int .i64 7, .int .i64 8, .int .i64 9, .int .i64 11, .int .i64 14]) (.int .i64 2)).run Try.prog w = .ok (.int .i64 6) w := fun _ => by kernel_rfl
    have i3 : ∀ w, (Instr.index 161 (.agg #[.int .i64 2, .int .i64 3, .int .i64 6, .int .i64 7, .int .i64 8, .int .i64 9, .int .i64 11, .int .i64 14]) (.int .i64 3)).run Try.prog w = .ok (.int .i64 7) w := fun _ => by kernel_rfl
    have i4 : ∀ w, (Instr.index 161 (.agg #[.int .i64 2, .int .i64 3, .int .i64 6, .int .i64 7, .int .i64 8, .int .i64 9, .int .i64 11, .int .i64 14]) (.int .i64 4)).run Try.prog w = .ok (.int .i64 8) w := fun _ => by kernel_rfl
    have i5 : ∀ w, (Instr.index 161 (.agg #[.int .i64 2, .int .i64 3, .int .i64 6, .int .i64 7, .int .i64 8, .int .i64 9, .int .i64 11, .int .i64 14]) (.int .i64 5)).run Try.prog w = .ok (.int .i64 9) w := fun _ => by kernel_rfl
    have i6 : ∀ w, (Instr.index 161 (.agg #[.int .i64 2, .int .i64 3, .int .i64 6, .int .i64 7, .int .i64 8, .int .i64 9, .int .i64 11, .int .i64 14]) (.int .i64 6)).run Try.prog w = .ok (.int .i64 11) w := fun _ => by kernel_rfl
    have i7 : ∀ w, (Instr.index 161 (.agg #[.int .i64 2, .int .i64 3, .int .i64 6, .int .i64 7, .int .i64 8, .int .i64 9, .int .i64 11, .int .i64 14]) (.int .i64 7)).run Try.prog w = .ok (.int .i64 14) w := fun _ => by kernel_rfl
    go_enter Try.func105, Try.ntmps105
    go_wp2_with fail
    refine wp_loop_rounds 7 ?_
    rw [rounds_succ]
    go_wp2_with fail
    rw [rounds_succ]
    go_wp2_with fail
    rw [rounds_succ]
    go_wp2_with fail
    rw [rounds_succ]
    go_wp2_with fail
    rw [rounds_succ]
    go_wp2_with fail
    rw [rounds_succ]
    go_wp2_with fail
    rw [rounds_succ]
    go_wp2_with fail
    go_ret
    exact ⟨rfl, BB.out⟩
  have K6 := Lib.hid h6
  clear h6
  cases h7 : feqP (mp [m0, m1, m2, m3, m4, m5, m6, m7, m8, m9, m10, m11, m12, m13, m14, m15] 14) 0
  · have K7 := Lib.hid h7
    clear h7
    have HH : Hid (flatP (mp [m0, m1, m2, m3, m4, m5, m6, m7, m8, m9, m10, m11, m12, m13, m14, m15]) = false) := Lib.hid (by unfold flatP; rw [K0.out, K1.out, K2.out, K3.out, K4.out, K5.out, K6.out, K7.out]; simp)
    rw [HH.out]
    have e0 : (FloatKind.f64.format.order m2 0 != some Ordering.eq) = false := (RV.ne_ (show RV m2 (mp [m0, m1, m2, m3, m4, m5, m6, m7, m8, m9, m10, m11, m12, m13, m14, m15] 2) from HR.out 2 (by decide)) rv0).trans (by rw [K0.out]; rfl)
    have e1 : (FloatKind.f64.format.order m3 0 != some Ordering.eq) = false := (RV.ne_ (show RV m3 (mp [m0, m1, m2, m3, m4, m5, m6, m7, m8, m9, m10, m11, m12, m13, m14, m15] 3) from HR.out 3 (by decide)) rv0).trans (by rw [K1.out]; rfl)
    have e2 : (FloatKind.f64.format.order m6 0 != some Ordering.eq) = false := (RV.ne_ (show RV m6 (mp [m0, m1, m2, m3, m4, m5, m6, m7, m8, m9, m10, m11, m12, m13, m14, m15] 6) from HR.out 6 (by decide)) rv0).trans (by rw [K2.out]; rfl)
    have e3 : (FloatKind.f64.format.order m7 0 != some Ordering.eq) = false := (RV.ne_ (show RV m7 (mp [m0, m1, m2, m3, m4, m5, m6, m7, m8, m9, m10, m11, m12, m13, m14, m15] 7) from HR.out 7 (by decide)) rv0).trans (by rw [K3.out]; rfl)
    have e4 : (FloatKind.f64.format.order m8 0 != some Ordering.eq) = false := (RV.ne_ (show RV m8 (mp [m0, m1, m2, m3, m4, m5, m6, m7, m8, m9, m10, m11, m12, m13, m14, m15] 8) from HR.out 8 (by decide)) rv0).trans (by rw [K4.out]; rfl)
    have e5 : (FloatKind.f64.format.order m9 0 != some Ordering.eq) = false := (RV.ne_ (show RV m9 (mp [m0, m1, m2, m3, m4, m5, m6, m7, m8, m9, m10, m11, m12, m13, m14, m15] 9) from HR.out 9 (by decide)) rv0).trans (by rw [K5.out]; rfl)
    have e6 : (FloatKind.f64.format.order m11 0 != some Ordering.eq) = false := (RV.ne_ (show RV m11 (mp [m0, m1, m2, m3, m4, m5, m6, m7, m8, m9, m10, m11, m12, m13, m14, m15] 11) from HR.out 11 (by decide)) rv0).trans (by rw [K6.out]; rfl)
    have e7 : (FloatKind.f64.format.order m14 0 != some Ordering.eq) = true := (RV.ne_ (show RV m14 (mp [m0, m1, m2, m3, m4, m5, m6, m7, m8, m9, m10, m11, m12, m13, m14, m15] 14) from HR.out 14 (by decide)) rv0).trans (by rw [K7.out]; rfl)
    skip
    have i0 : ∀ w, (Instr.index 161 (.agg #[.int .i64 2, .int .i64 3, .int .i64 6, .int .i64 7, .int .i64 8, .int .i64 9, .int .i64 11, .int .i64 14]) (.int .i64 0)).run Try.prog w = .ok (.int .i64 2) w := fun _ => by kernel_rfl
    have i1 : ∀ w, (Instr.index 161 (.agg #[.int .i64 2, .int .i64 3, .int .i64 6, .int .i64 7, .int .i64 8, .int .i64 9, .int .i64 11, .int .i64 14]) (.int .i64 1)).run Try.prog w = .ok (.int .i64 3) w := fun _ => by kernel_rfl
    have i2 : ∀ w, (Instr.index 161 (.agg #[.int .i64 2, .int .i64 3, .int .i64 6, .int .i64 7, .int .i64 8, .int .i64 9, .int .i64 11, .int .i64 14]) (.int .i64 2)).run Try.prog w = .ok (.int .i64 6) w := fun _ => by kernel_rfl
    have i3 : ∀ w, (Instr.index 161 (.agg #[.int .i64 2, .int .i64 3, .int .i64 6, .int .i64 7, .int .i64 8, .int .i64 9, .int .i64 11, .int .i64 14]) (.int .i64 3)).run Try.prog w = .ok (.int .i64 7) w := fun _ => by kernel_rfl
    have i4 : ∀ w, (Instr.index 161 (.agg #[.int .i64 2, .int .i64 3, .int .i64 6, .int .i64 7, .int .i64 8, .int .i64 9, .int .i64 11, .int .i64 14]) (.int .i64 4)).run Try.prog w = .ok (.int .i64 8) w := fun _ => by kernel_rfl
    have i5 : ∀ w, (Instr.index 161 (.agg #[.int .i64 2, .int .i64 3, .int .i64 6, .int .i64 7, .int .i64 8, .int .i64 9, .int .i64 11, .int .i64 14]) (.int .i64 5)).run Try.prog w = .ok (.int .i64 9) w := fun _ => by kernel_rfl
    have i6 : ∀ w, (Instr.index 161 (.agg #[.int .i64 2, .int .i64 3, .int .i64 6, .int .i64 7, .int .i64 8, .int .i64 9, .int .i64 11, .int .i64 14]) (.int .i64 6)).run Try.prog w = .ok (.int .i64 11) w := fun _ => by kernel_rfl
    have i7 : ∀ w, (Instr.index 161 (.agg #[.int .i64 2, .int .i64 3, .int .i64 6, .int .i64 7, .int .i64 8, .int .i64 9, .int .i64 11, .int .i64 14]) (.int .i64 7)).run Try.prog w = .ok (.int .i64 14) w := fun _ => by kernel_rfl
    go_enter Try.func105, Try.ntmps105
    go_wp2_with fail
    refine wp_loop_rounds 8 ?_
    rw [rounds_succ]
    go_wp2_with fail
    rw [rounds_succ]
    go_wp2_with fail
    rw [rounds_succ]
    go_wp2_with fail
    rw [rounds_succ]
    go_wp2_with fail
    rw [rounds_succ]
    go_wp2_with fail
    rw [rounds_succ]
    go_wp2_with fail
    rw [rounds_succ]
    go_wp2_with fail
    rw [rounds_succ]
    go_wp2_with fail
    go_ret
    exact ⟨rfl, BB.out⟩
  have K7 := Lib.hid h7
  clear h7
  cases h8 : feqP (mp [m0, m1, m2, m3, m4, m5, m6, m7, m8, m9, m10, m11, m12, m13, m14, m15] 10) 4607182418800017408
  · have K8 := Lib.hid h8
    clear h8
    have HH : Hid (flatP (mp [m0, m1, m2, m3, m4, m5, m6, m7, m8, m9, m10, m11, m12, m13, m14, m15]) = false) := Lib.hid (by unfold flatP; rw [K0.out, K1.out, K2.out, K3.out, K4.out, K5.out, K6.out, K7.out, K8.out]; simp)
    rw [HH.out]
    have e0 : (FloatKind.f64.format.order m2 0 != some Ordering.eq) = false := (RV.ne_ (show RV m2 (mp [m0, m1, m2, m3, m4, m5, m6, m7, m8, m9, m10, m11, m12, m13, m14, m15] 2) from HR.out 2 (by decide)) rv0).trans (by rw [K0.out]; rfl)
    have e1 : (FloatKind.f64.format.order m3 0 != some Ordering.eq) = false := (RV.ne_ (show RV m3 (mp [m0, m1, m2, m3, m4, m5, m6, m7, m8, m9, m10, m11, m12, m13, m14, m15] 3) from HR.out 3 (by decide)) rv0).trans (by rw [K1.out]; rfl)
    have e2 : (FloatKind.f64.format.order m6 0 != some Ordering.eq) = false := (RV.ne_ (show RV m6 (mp [m0, m1, m2, m3, m4, m5, m6, m7, m8, m9, m10, m11, m12, m13, m14, m15] 6) from HR.out 6 (by decide)) rv0).trans (by rw [K2.out]; rfl)
    have e3 : (FloatKind.f64.format.order m7 0 != some Ordering.eq) = false := (RV.ne_ (show RV m7 (mp [m0, m1, m2, m3, m4, m5, m6, m7, m8, m9, m10, m11, m12, m13, m14, m15] 7) from HR.out 7 (by decide)) rv0).trans (by rw [K3.out]; rfl)
    have e4 : (FloatKind.f64.format.order m8 0 != some Ordering.eq) = false := (RV.ne_ (show RV m8 (mp [m0, m1, m2, m3, m4, m5, m6, m7, m8, m9, m10, m11, m12, m13, m14, m15] 8) from HR.out 8 (by decide)) rv0).trans (by rw [K4.out]; rfl)
    have e5 : (FloatKind.f64.format.order m9 0 != some Ordering.eq) = false := (RV.ne_ (show RV m9 (mp [m0, m1, m2, m3, m4, m5, m6, m7, m8, m9, m10, m11, m12, m13, m14, m15] 9) from HR.out 9 (by decide)) rv0).trans (by rw [K5.out]; rfl)
    have e6 : (FloatKind.f64.format.order m11 0 != some Ordering.eq) = false := (RV.ne_ (show RV m11 (mp [m0, m1, m2, m3, m4, m5, m6, m7, m8, m9, m10, m11, m12, m13, m14, m15] 11) from HR.out 11 (by decide)) rv0).trans (by rw [K6.out]; rfl)
    have e7 : (FloatKind.f64.format.order m14 0 != some Ordering.eq) = false := (RV.ne_ (show RV m14 (mp [m0, m1, m2, m3, m4, m5, m6, m7, m8, m9, m10, m11, m12, m13, m14, m15] 14) from HR.out 14 (by decide)) rv0).trans (by rw [K7.out]; rfl)
    have e8 : (FloatKind.f64.format.order m10 4607182418800017408 == some Ordering.eq) = false := (RV.eq_ (show RV m10 (mp [m0, m1, m2, m3, m4, m5, m6, m7, m8, m9, m10, m11, m12, m13, m14, m15] 10) from HR.out 10 (by decide)) rv1).trans K8.out
    skip
    have i0 : ∀ w, (Instr.index 161 (.agg #[.int .i64 2, .int .i64 3, .int .i64 6, .int .i64 7, .int .i64 8, .int .i64 9, .int .i64 11, .int .i64 14]) (.int .i64 0)).run Try.prog w = .ok (.int .i64 2) w := fun _ => by kernel_rfl
    have i1 : ∀ w, (Instr.index 161 (.agg #[.int .i64 2, .int .i64 3, .int .i64 6, .int .i64 7, .int .i64 8, .int .i64 9, .int .i64 11, .int .i64 14]) (.int .i64 1)).run Try.prog w = .ok (.int .i64 3) w := fun _ => by kernel_rfl
    have i2 : ∀ w, (Instr.index 161 (.agg #[.int .i64 2, .int .i64 3, .int .i64 6, .int .i64 7, .int .i64 8, .int .i64 9, .int .i64 11, .int .i64 14]) (.int .i64 2)).run Try.prog w = .ok (.int .i64 6) w := fun _ => by kernel_rfl
    have i3 : ∀ w, (Instr.index 161 (.agg #[.int .i64 2, .int .i64 3, .int .i64 6, .int .i64 7, .int .i64 8, .int .i64 9, .int .i64 11, .int .i64 14]) (.int .i64 3)).run Try.prog w = .ok (.int .i64 7) w := fun _ => by kernel_rfl
    have i4 : ∀ w, (Instr.index 161 (.agg #[.int .i64 2, .int .i64 3, .int .i64 6, .int .i64 7, .int .i64 8, .int .i64 9, .int .i64 11, .int .i64 14]) (.int .i64 4)).run Try.prog w = .ok (.int .i64 8) w := fun _ => by kernel_rfl
    have i5 : ∀ w, (Instr.index 161 (.agg #[.int .i64 2, .int .i64 3, .int .i64 6, .int .i64 7, .int .i64 8, .int .i64 9, .int .i64 11, .int .i64 14]) (.int .i64 5)).run Try.prog w = .ok (.int .i64 9) w := fun _ => by kernel_rfl
    have i6 : ∀ w, (Instr.index 161 (.agg #[.int .i64 2, .int .i64 3, .int .i64 6, .int .i64 7, .int .i64 8, .int .i64 9, .int .i64 11, .int .i64 14]) (.int .i64 6)).run Try.prog w = .ok (.int .i64 11) w := fun _ => by kernel_rfl
    have i7 : ∀ w, (Instr.index 161 (.agg #[.int .i64 2, .int .i64 3, .int .i64 6, .int .i64 7, .int .i64 8, .int .i64 9, .int .i64 11, .int .i64 14]) (.int .i64 7)).run Try.prog w = .ok (.int .i64 14) w := fun _ => by kernel_rfl
    go_enter Try.func105, Try.ntmps105
    go_wp2_with fail
    refine wp_loop_rounds 9 ?_
    rw [rounds_succ]
    go_wp2_with fail
    rw [rounds_succ]
    go_wp2_with fail
    rw [rounds_succ]
    go_wp2_with fail
    rw [rounds_succ]
    go_wp2_with fail
    rw [rounds_succ]
    go_wp2_with fail
    rw [rounds_succ]
    go_wp2_with fail
    rw [rounds_succ]
    go_wp2_with fail
    rw [rounds_succ]
    go_wp2_with fail
    rw [rounds_succ]
    go_wp2_with fail
    go_ret
    exact ⟨rfl, BB.out⟩
  have K8 := Lib.hid h8
  clear h8
  cases h9 : feqP (mp [m0, m1, m2, m3, m4, m5, m6, m7, m8, m9, m10, m11, m12, m13, m14, m15] 15) 4607182418800017408
  · have K9 := Lib.hid h9
    clear h9
    have HH : Hid (flatP (mp [m0, m1, m2, m3, m4, m5, m6, m7, m8, m9, m10, m11, m12, m13, m14, m15]) = false) := Lib.hid (by unfold flatP; rw [K0.out, K1.out, K2.out, K3.out, K4.out, K5.out, K6.out, K7.out, K8.out, K9.out]; simp)
    rw [HH.out]
    have e0 : (FloatKind.f64.format.order m2 0 != some Ordering.eq) = false := (RV.ne_ (show RV m2 (mp [m0, m1, m2, m3, m4, m5, m6, m7, m8, m9, m10, m11, m12, m13, m14, m15] 2) from HR.out 2 (by decide)) rv0).trans (by rw [K0.out]; rfl)
    have e1 : (FloatKind.f64.format.order m3 0 != some Ordering.eq) = false := (RV.ne_ (show RV m3 (mp [m0, m1, m2, m3, m4, m5, m6, m7, m8, m9, m10, m11, m12, m13, m14, m15] 3) from HR.out 3 (by decide)) rv0).trans (by rw [K1.out]; rfl)
    have e2 : (FloatKind.f64.format.order m6 0 != some Ordering.eq) = false := (RV.ne_ (show RV m6 (mp [m0, m1, m2, m3, m4, m5, m6, m7, m8, m9, m10, m11, m12, m13, m14, m15] 6) from HR.out 6 (by decide)) rv0).trans (by rw [K2.out]; rfl)
    have e3 : (FloatKind.f64.format.order m7 0 != some Ordering.eq) = false := (RV.ne_ (show RV m7 (mp [m0, m1, m2, m3, m4, m5, m6, m7, m8, m9, m10, m11, m12, m13, m14, m15] 7) from HR.out 7 (by decide)) rv0).trans (by rw [K3.out]; rfl)
    have e4 : (FloatKind.f64.format.order m8 0 != some Ordering.eq) = false := (RV.ne_ (show RV m8 (mp [m0, m1, m2, m3, m4, m5, m6, m7, m8, m9, m10, m11, m12, m13, m14, m15] 8) from HR.out 8 (by decide)) rv0).trans (by rw [K4.out]; rfl)
    have e5 : (FloatKind.f64.format.order m9 0 != some Ordering.eq) = false := (RV.ne_ (show RV m9 (mp [m0, m1, m2, m3, m4, m5, m6, m7, m8, m9, m10, m11, m12, m13, m14, m15] 9) from HR.out 9 (by decide)) rv0).trans (by rw [K5.out]; rfl)
    have e6 : (FloatKind.f64.format.order m11 0 != some Ordering.eq) = false := (RV.ne_ (show RV m11 (mp [m0, m1, m2, m3, m4, m5, m6, m7, m8, m9, m10, m11, m12, m13, m14, m15] 11) from HR.out 11 (by decide)) rv0).trans (by rw [K6.out]; rfl)
    have e7 : (FloatKind.f64.format.order m14 0 != some Ordering.eq) = false := (RV.ne_ (show RV m14 (mp [m0, m1, m2, m3, m4, m5, m6, m7, m8, m9, m10, m11, m12, m13, m14, m15] 14) from HR.out 14 (by decide)) rv0).trans (by rw [K7.out]; rfl)
    have e8 : (FloatKind.f64.format.order m10 4607182418800017408 == some Ordering.eq) = true := (RV.eq_ (show RV m10 (mp [m0, m1, m2, m3, m4, m5, m6, m7, m8, m9, m10, m11, m12, m13, m14, m15] 10) from HR.out 10 (by decide)) rv1).trans K8.out
    have e9 : (FloatKind.f64.format.order m15 4607182418800017408 == some Ordering.eq) = false := (RV.eq_ (show RV m15 (mp [m0, m1, m2, m3, m4, m5, m6, m7, m8, m9, m10, m11, m12, m13, m14, m15] 15) from HR.out 15 (by decide)) rv1).trans K9.out
    skip
    have i0 : ∀ w, (Instr.index 161 (.agg #[.int .i64 2, .int .i64 3, .int .i64 6, .int .i64 7, .int .i64 8, .int .i64 9, .int .i64 11, .int .i64 14]) (.int .i64 0)).run Try.prog w = .ok (.int .i64 2) w := fun _ => by kernel_rfl
    have i1 : ∀ w, (Instr.index 161 (.agg #[.int .i64 2, .int .i64 3, .int .i64 6, .int .i64 7, .int .i64 8, .int .i64 9, .int .i64 11, .int .i64 14]) (.int .i64 1)).run Try.prog w = .ok (.int .i64 3) w := fun _ => by kernel_rfl
    have i2 : ∀ w, (Instr.index 161 (.agg #[.int .i64 2, .int .i64 3, .int .i64 6, .int .i64 7, .int .i64 8, .int .i64 9, .int .i64 11, .int .i64 14]) (.int .i64 2)).run Try.prog w = .ok (.int .i64 6) w := fun _ => by kernel_rfl
    have i3 : ∀ w, (Instr.index 161 (.agg #[.int .i64 2, .int .i64 3, .int .i64 6, .int .i64 7, .int .i64 8, .int .i64 9, .int .i64 11, .int .i64 14]) (.int .i64 3)).run Try.prog w = .ok (.int .i64 7) w := fun _ => by kernel_rfl
    have i4 : ∀ w, (Instr.index 161 (.agg #[.int .i64 2, .int .i64 3, .int .i64 6, .int .i64 7, .int .i64 8, .int .i64 9, .int .i64 11, .int .i64 14]) (.int .i64 4)).run Try.prog w = .ok (.int .i64 8) w := fun _ => by kernel_rfl
    have i5 : ∀ w, (Instr.index 161 (.agg #[.int .i64 2, .int .i64 3, .int .i64 6, .int .i64 7, .int .i64 8, .int .i64 9, .int .i64 11, .int .i64 14]) (.int .i64 5)).run Try.prog w = .ok (.int .i64 9) w := fun _ => by kernel_rfl
    have i6 : ∀ w, (Instr.index 161 (.agg #[.int .i64 2, .int .i64 3, .int .i64 6, .int .i64 7, .int .i64 8, .int .i64 9, .int .i64 11, .int .i64 14]) (.int .i64 6)).run Try.prog w = .ok (.int .i64 11) w := fun _ => by kernel_rfl
    have i7 : ∀ w, (Instr.index 161 (.agg #[.int .i64 2, .int .i64 3, .int .i64 6, .int .i64 7, .int .i64 8, .int .i64 9, .int .i64 11, .int .i64 14]) (.int .i64 7)).run Try.prog w = .ok (.int .i64 14) w := fun _ => by kernel_rfl
    go_enter Try.func105, Try.ntmps105
    go_wp2_with fail
    refine wp_loop_rounds 9 ?_
    rw [rounds_succ]
    go_wp2_with fail
    rw [rounds_succ]
    go_wp2_with fail
    rw [rounds_succ]
    go_wp2_with fail
    rw [rounds_succ]
    go_wp2_with fail
    rw [rounds_succ]
    go_wp2_with fail
    rw [rounds_succ]
    go_wp2_with fail
    rw [rounds_succ]
    go_wp2_with fail
    rw [rounds_succ]
    go_wp2_with fail
    rw [rounds_succ]
    go_wp2_with fail
    go_ret
    exact ⟨rfl, BB.out⟩
  have K9 := Lib.hid h9
  clear h9
  have HH : Hid (flatP (mp [m0, m1, m2, m3, m4, m5, m6, m7, m8, m9, m10, m11, m12, m13, m14, m15]) = true) := Lib.hid (by unfold flatP; rw [K0.out, K1.out, K2.out, K3.out, K4.out, K5.out, K6.out, K7.out, K8.out, K9.out]; rfl)
  rw [HH.out]
  have e0 : (FloatKind.f64.format.order m2 0 != some Ordering.eq) = false := (RV.ne_ (show RV m2 (mp [m0, m1, m2, m3, m4, m5, m6, m7, m8, m9, m10, m11, m12, m13, m14, m15] 2) from HR.out 2 (by decide)) rv0).trans (by rw [K0.out]; rfl)
  have e1 : (FloatKind.f64.format.order m3 0 != some Ordering.eq) = false := (RV.ne_ (show RV m3 (mp [m0, m1, m2, m3, m4, m5, m6, m7, m8, m9, m10, m11, m12, m13, m14, m15] 3) from HR.out 3 (by decide)) rv0).trans (by rw [K1.out]; rfl)
  have e2 : (FloatKind.f64.format.order m6 0 != some Ordering.eq) = false := (RV.ne_ (show RV m6 (mp [m0, m1, m2, m3, m4, m5, m6, m7, m8, m9, m10, m11, m12, m13, m14, m15] 6) from HR.out 6 (by decide)) rv0).trans (by rw [K2.out]; rfl)
  have e3 : (FloatKind.f64.format.order m7 0 != some Ordering.eq) = false := (RV.ne_ (show RV m7 (mp [m0, m1, m2, m3, m4, m5, m6, m7, m8, m9, m10, m11, m12, m13, m14, m15] 7) from HR.out 7 (by decide)) rv0).trans (by rw [K3.out]; rfl)
  have e4 : (FloatKind.f64.format.order m8 0 != some Ordering.eq) = false := (RV.ne_ (show RV m8 (mp [m0, m1, m2, m3, m4, m5, m6, m7, m8, m9, m10, m11, m12, m13, m14, m15] 8) from HR.out 8 (by decide)) rv0).trans (by rw [K4.out]; rfl)
  have e5 : (FloatKind.f64.format.order m9 0 != some Ordering.eq) = false := (RV.ne_ (show RV m9 (mp [m0, m1, m2, m3, m4, m5, m6, m7, m8, m9, m10, m11, m12, m13, m14, m15] 9) from HR.out 9 (by decide)) rv0).trans (by rw [K5.out]; rfl)
  have e6 : (FloatKind.f64.format.order m11 0 != some Ordering.eq) = false := (RV.ne_ (show RV m11 (mp [m0, m1, m2, m3, m4, m5, m6, m7, m8, m9, m10, m11, m12, m13, m14, m15] 11) from HR.out 11 (by decide)) rv0).trans (by rw [K6.out]; rfl)
  have e7 : (FloatKind.f64.format.order m14 0 != some Ordering.eq) = false := (RV.ne_ (show RV m14 (mp [m0, m1, m2, m3, m4, m5, m6, m7, m8, m9, m10, m11, m12, m13, m14, m15] 14) from HR.out 14 (by decide)) rv0).trans (by rw [K7.out]; rfl)
  have e8 : (FloatKind.f64.format.order m10 4607182418800017408 == some Ordering.eq) = true := (RV.eq_ (show RV m10 (mp [m0, m1, m2, m3, m4, m5, m6, m7, m8, m9, m10, m11, m12, m13, m14, m15] 10) from HR.out 10 (by decide)) rv1).trans K8.out
  have e9 : (FloatKind.f64.format.order m15 4607182418800017408 == some Ordering.eq) = true := (RV.eq_ (show RV m15 (mp [m0, m1, m2, m3, m4, m5, m6, m7, m8, m9, m10, m11, m12, m13, m14, m15] 15) from HR.out 15 (by decide)) rv1).trans K9.out
  skip
  have i0 : ∀ w, (Instr.index 161 (.agg #[.int .i64 2, .int .i64 3, .int .i64 6, .int .i64 7, .int .i64 8, .int .i64 9, .int .i64 11, .int .i64 14]) (.int .i64 0)).run Try.prog w = .ok (.int .i64 2) w := fun _ => by kernel_rfl
  have i1 : ∀ w, (Instr.index 161 (.agg #[.int .i64 2, .int .i64 3, .int .i64 6, .int .i64 7, .int .i64 8, .int .i64 9, .int .i64 11, .int .i64 14]) (.int .i64 1)).run Try.prog w = .ok (.int .i64 3) w := fun _ => by kernel_rfl
  have i2 : ∀ w, (Instr.index 161 (.agg #[.int .i64 2, .int .i64 3, .int .i64 6, .int .i64 7, .int .i64 8, .int .i64 9, .int .i64 11, .int .i64 14]) (.int .i64 2)).run Try.prog w = .ok (.int .i64 6) w := fun _ => by kernel_rfl
  have i3 : ∀ w, (Instr.index 161 (.agg #[.int .i64 2, .int .i64 3, .int .i64 6, .int .i64 7, .int .i64 8, .int .i64 9, .int .i64 11, .int .i64 14]) (.int .i64 3)).run Try.prog w = .ok (.int .i64 7) w := fun _ => by kernel_rfl
  have i4 : ∀ w, (Instr.index 161 (.agg #[.int .i64 2, .int .i64 3, .int .i64 6, .int .i64 7, .int .i64 8, .int .i64 9, .int .i64 11, .int .i64 14]) (.int .i64 4)).run Try.prog w = .ok (.int .i64 8) w := fun _ => by kernel_rfl
  have i5 : ∀ w, (Instr.index 161 (.agg #[.int .i64 2, .int .i64 3, .int .i64 6, .int .i64 7, .int .i64 8, .int .i64 9, .int .i64 11, .int .i64 14]) (.int .i64 5)).run Try.prog w = .ok (.int .i64 9) w := fun _ => by kernel_rfl
  have i6 : ∀ w, (Instr.index 161 (.agg #[.int .i64 2, .int .i64 3, .int .i64 6, .int .i64 7, .int .i64 8, .int .i64 9, .int .i64 11, .int .i64 14]) (.int .i64 6)).run Try.prog w = .ok (.int .i64 11) w := fun _ => by kernel_rfl
  have i7 : ∀ w, (Instr.index 161 (.agg #[.int .i64 2, .int .i64 3, .int .i64 6, .int .i64 7, .int .i64 8, .int .i64 9, .int .i64 11, .int .i64 14]) (.int .i64 7)).run Try.prog w = .ok (.int .i64 14) w := fun _ => by kernel_rfl
  go_enter Try.func105, Try.ntmps105
  go_wp2_with fail
  refine wp_loop_rounds 9 ?_
  rw [rounds_succ]
  go_wp2_with fail
  rw [rounds_succ]
  go_wp2_with fail
  rw [rounds_succ]
  go_wp2_with fail
  rw [rounds_succ]
  go_wp2_with fail
  rw [rounds_succ]
  go_wp2_with fail
  rw [rounds_succ]
  go_wp2_with fail
  rw [rounds_succ]
  go_wp2_with fail
  rw [rounds_succ]
  go_wp2_with fail
  rw [rounds_succ]
  go_wp2_with fail
  go_ret
  exact ⟨rfl, BB.out⟩
theorem k105 {ms : List Nat} (hm : MU ms) (w : World) : Calls Try.prog 105 #[.agg (ms.map (Value.float .f64)).toArray] w fun e w' => e = .returned (.bool (flatP (mp ms))) ∧ Below w.heap.size w w' := by
  obtain ⟨m0, m1, m2, m3, m4, m5, m6, m7, m8, m9, m10, m11, m12, m13, m14, m15, rfl⟩ := mu_list hm.1
  exact k105' m0 m1 m2 m3 m4 m5 m6 m7 m8 m9 m10 m11 m12 m13 m14 m15 hm w
end Go.Proofs.Ytelalledjbeenaa
