/- The walk of GeomRects: printed by geo15.py. -/
import Derived.Test.YtelalledjbeenaaMgGeoR
namespace Go.Proofs.Ytelalledjbeenaa
open Go.RowKit Fl

structure Tri (wx w : World) (A B C : List Value) : Prop where
  a : Kp wx w.heap.size A
  b : Kp wx (w.heap.size + 1) B
  c : Kp wx (w.heap.size + 1 + 1) C
  o : Below w.heap.size w wx
theorem Tri.below {wx wy w : World} {A B C : List Value} (h : Tri wx w A B C) (hb : Below wx.heap.size wx wy) : Tri wy w A B C := ⟨h.a.below hb, h.b.below hb, h.c.below hb, below_trans h.o hb⟩
theorem tri_entry (w : World) (A B C : List Value) (s t u : TypeId) : Tri (((w.alloc (.cells A.toArray s)).alloc (.cells B.toArray t)).alloc (.cells C.toArray u)) w A B C := by
  have e1 : (w.alloc (.cells A.toArray s)).heap.size = w.heap.size + 1 := by simp
  have e2 : ((w.alloc (.cells A.toArray s)).alloc (.cells B.toArray t)).heap.size = w.heap.size + 1 + 1 := by simp
  have k2 := kp_new (w.alloc (.cells A.toArray s)) B t
  have k3 := kp_new ((w.alloc (.cells A.toArray s)).alloc (.cells B.toArray t)) C u
  rw [e1] at k2
  rw [e2] at k3
  exact ⟨((kp_new w A s).below (alloc_below _ _)).below (alloc_below _ _), k2.below (alloc_below _ _), k3, below_trans (below_trans (alloc_below w _) (alloc_below _ _)) (alloc_below _ _)⟩
theorem g54r {B : Bool} {w0 w : World} {a0 b0 a1 b1 a2 b2 a3 b3 : Nat} {P0 P1 P2 P3 : Int} (ha0 : RV a0 P0) (hb0 : RV b0 P0) (ha1 : RV a1 P1) (hb1 : RV b1 P1) (ha2 : RV a2 P2) (hb2 : RV b2 P2) (ha3 : RV a3 P3) (hb3 : RV b3 P3) (hw : Below w0.heap.size w0 w) :
    Calls Try.prog 54 #[.agg #[.float .f64 a0, .float .f64 a1, .float .f64 a2, .float .f64 a3], .agg #[.float .f64 b0, .float .f64 b1, .float .f64 b2, .float .f64 b3]] w fun e w' => ∃ v, e = .returned v ∧ GR B 54 #[.agg #[.float .f64 a0, .float .f64 a1, .float .f64 a2, .float .f64 a3], .agg #[.float .f64 b0, .float .f64 b1, .float .f64 b2, .float .f64 b3]] v ∧ Below w0.heap.size w0 w' :=
  (k54 ha0 hb0 ha1 hb1 ha2 hb2 ha3 hb3 w).mono fun e w' ⟨he, hb⟩ => ⟨_, he, rfl, below_trans hw hb⟩
theorem g57r {w0 w : World} {a0 a1 a2 a3 x y : Nat} {A0 A1 A2 A3 X Y : Int} (ha0 : RV a0 A0) (ha1 : RV a1 A1) (ha2 : RV a2 A2) (ha3 : RV a3 A3) (hx : RV x X) (hy : RV y Y) (hw : Below w0.heap.size w0 w) :
    Calls Try.prog 57 #[.agg #[.float .f64 a0, .float .f64 a1, .float .f64 a2, .float .f64 a3], .float .f64 x, .float .f64 y] w fun e w' => ∃ v, e = .returned v ∧ GR (hasP A0 A1 A2 A3 X Y) 57 #[.agg #[.float .f64 a0, .float .f64 a1, .float .f64 a2, .float .f64 a3], .float .f64 x, .float .f64 y] v ∧ Below w0.heap.size w0 w' :=
  (k57 ha0 ha1 ha2 ha3 hx hy w).mono fun e w' ⟨he, hb⟩ => ⟨_, he, rfl, below_trans hw hb⟩
theorem g58r {w0 w : World} {a0 a1 a2 a3 x y : Nat} {A0 A1 A2 A3 X Y : Int} (ha0 : RV a0 A0) (ha1 : RV a1 A1) (ha2 : RV a2 A2) (ha3 : RV a3 A3) (hx : RV x X) (hy : RV y Y) (hw : Below w0.heap.size w0 w) :
    Calls Try.prog 58 #[.agg #[.float .f64 a0, .float .f64 a1, .float .f64 a2, .float .f64 a3], .float .f64 x, .float .f64 y] w fun e w' => ∃ v, e = .returned v ∧ GR (hasP A0 A1 A2 A3 X Y) 58 #[.agg #[.float .f64 a0, .float .f64 a1, .float .f64 a2, .float .f64 a3], .float .f64 x, .float .f64 y] v ∧ Below w0.heap.size w0 w' :=
  (k58 ha0 ha1 ha2 ha3 hx hy w).mono fun e w' ⟨he, hb⟩ => ⟨_, he, rfl, below_trans hw hb⟩
theorem meet_places (A0 A1 A2 A3 B0 B1 B2 B3 : Int) : ∃ Q0 Q1 Q2 Q3 : Int, ∀ e, MeetR A0 A1 A2 A3 B0 B1 B2 B3 e → ∃ a b c d : Nat, e = .returned (.tuple #[.agg #[.float .f64 a, .float .f64 b, .float .f64 c, .float .f64 d], .bool (meetB A0 A1 A2 A3 B0 B1 B2 B3)]) ∧ RV a Q0 ∧ RV b Q1 ∧ RV c Q2 ∧ RV d Q3 := by
  unfold MeetR
  cases hm : meetB A0 A1 A2 A3 B0 B1 B2 B3
  · exact ⟨0, 0, 0, 0, fun e ⟨a, b, c, d, he, h⟩ => ⟨a, b, c, d, he, h⟩⟩
  · exact ⟨(maxP (loP A0 A2) (loP B0 B2)), (maxP (loP A1 A3) (loP B1 B3)), _, _, fun e ⟨a, b, c, d, he, h⟩ => ⟨a, b, c, d, he, h⟩⟩
set_option maxRecDepth 100000 in
set_option maxHeartbeats 2000000 in
theorem walkGeomRects {a0 a1 a2 a3 b0 b1 b2 b3 p0 p1 p2 p3 : Nat} (ha0 : U a0) (ha1 : U a1) (ha2 : U a2) (ha3 : U a3) (hb0 : U b0) (hb1 : U b1) (hb2 : U b2) (hb3 : U b3) (hp0 : U p0) (hp1 : U p1) (hp2 : U p2) (hp3 : U p3) (w : World) :
    Calls Try.prog 10 #[.agg #[.float .f64 a0, .float .f64 a1, .float .f64 a2, .float .f64 a3], .agg #[.float .f64 b0, .float .f64 b1, .float .f64 b2, .float .f64 b3], .agg #[.float .f64 p0, .float .f64 p1, .float .f64 p2, .float .f64 p3]] w fun e w' => e = .returned (.bool true) ∧ Below w.heap.size w w' := by
  obtain ⟨A0, qa0⟩ : ∃ P, RV a0 P := ⟨_, RV.self ha0⟩
  obtain ⟨A1, qa1⟩ : ∃ P, RV a1 P := ⟨_, RV.self ha1⟩
  obtain ⟨A2, qa2⟩ : ∃ P, RV a2 P := ⟨_, RV.self ha2⟩
  obtain ⟨A3, qa3⟩ : ∃ P, RV a3 P := ⟨_, RV.self ha3⟩
  obtain ⟨B0, qb0⟩ : ∃ P, RV b0 P := ⟨_, RV.self hb0⟩
  obtain ⟨B1, qb1⟩ : ∃ P, RV b1 P := ⟨_, RV.self hb1⟩
  obtain ⟨B2, qb2⟩ : ∃ P, RV b2 P := ⟨_, RV.self hb2⟩
  obtain ⟨B3, qb3⟩ : ∃ P, RV b3 P := ⟨_, RV.self hb3⟩
  obtain ⟨P0, qp0⟩ : ∃ P, RV p0 P := ⟨_, RV.self hp0⟩
  obtain ⟨P1, qp1⟩ : ∃ P, RV p1 P := ⟨_, RV.self hp1⟩
  obtain ⟨P2, qp2⟩ : ∃ P, RV p2 P := ⟨_, RV.self hp2⟩
  obtain ⟨P3, qp3⟩ : ∃ P, RV p3 P := ⟨_, RV.self hp3⟩
  have HA := Lib.hid (And.intro qa0 (And.intro qa1 (And.intro qa2 qa3)))
  have HB := Lib.hid (And.intro qb0 (And.intro qb1 (And.intro qb2 qb3)))
  have HP := Lib.hid (And.intro qp0 (And.intro qp1 (And.intro qp2 qp3)))
  clear ha0 qa0 ha1 qa1 ha2 qa2 ha3 qa3 hb0 qb0 hb1 qb1 hb2 qb2 hb3 qb3 hp0 qp0 hp1 qp1 hp2 qp2 hp3 qp3
  go_enter Try.func10, Try.ntmps10
  go_wp2_with fail
  refine (k46 _).mono ?_
  rintro e w1 ⟨rfl, h1⟩
  have W1 := Lib.hid ((tri_entry w [.float .f64 a0, .float .f64 a1, .float .f64 a2, .float .f64 a3] [.float .f64 b0, .float .f64 b1, .float .f64 b2, .float .f64 b3] [.float .f64 p0, .float .f64 p1, .float .f64 p2, .float .f64 p3] 58 58 60).below h1)
  clear h1
  obtain ⟨y0, y1, y2, y3⟩ := cells4 W1.out.a.r
  go_wp2_with fail
  refine (k47 HA.out.1 HA.out.2.1 HA.out.2.2.1 HA.out.2.2.2 _).mono ?_
  rintro e w2 ⟨⟨x0, x1, x2, x3, rfl, hx⟩, h2⟩
  have HX := Lib.hid hx
  have W2 := Lib.hid (And.intro ((W1.out.below h2).below (alloc_below w2 (.cells #[.float .f64 x0, .float .f64 x1, .float .f64 x2, .float .f64 x3] 61))) (kp_new w2 [.float .f64 x0, .float .f64 x1, .float .f64 x2, .float .f64 x3] 61))
  obtain ⟨s0, s1, s2, s3⟩ := store4n w2 61
  clear hx h2 W1 y0 y1 y2 y3
  go_upto_region 3 with fail
  refine wp_gen (fun wx => Hid (Tri wx w [.float .f64 a0, .float .f64 a1, .float .f64 a2, .float .f64 a3] [.float .f64 b0, .float .f64 b1, .float .f64 b2, .float .f64 b3] [.float .f64 p0, .float .f64 p1, .float .f64 p2, .float .f64 p3] ∧ Kp wx w2.heap.size [.float .f64 x0, .float .f64 x1, .float .f64 x2, .float .f64 x3])) W2 ?_
  intro wc hW
  clear W2 s0 s1 s2 s3
  generalize w2.heap.size = g at *
  have ra : ∀ w', Below wc.heap.size wc w' → w'.rangeAt w.heap.size 0 [.float .f64 a0, .float .f64 a1, .float .f64 a2, .float .f64 a3] := fun w' hw => (hW.out.1.a.below hw).r
  have rx : ∀ w', Below wc.heap.size wc w' → w'.rangeAt g 0 [.float .f64 x0, .float .f64 x1, .float .f64 x2, .float .f64 x3] := fun w' hw => (hW.out.2.below hw).r
  refine wp_region_rel 27 (fun w' => Below wc.heap.size wc w') (GR true) (by kernel_rfl) (by kernel_rfl) ((Below.refl _ _).drew) ?_
  simp only [List.take_succ_cons, List.take_zero, List.drop_succ_cons, List.drop_zero]
  refine rel_load_row (w.heap.size) 0 [.float .f64 a0, .float .f64 a1, .float .f64 a2, .float .f64 a3] _ rfl rfl ra Try.underlying58 rfl size58 ?_
  simp only [Act.put, List.setIfInBounds_toArray, List.set_cons_succ, List.set_cons_zero]
  refine rel_call (f := 48) (args := #[.agg #[.float .f64 a0, .float .f64 a1, .float .f64 a2, .float .f64 a3]]) rfl (fun w' hw => by go_simp) (fun w' hw => g48r HA.out.1 HA.out.2.1 HA.out.2.2.1 HA.out.2.2.2 hw) (fun v hv => ?_)
  obtain ⟨r1, rfl, hr1⟩ := G48r hv HA.out.1 HA.out.2.1 HA.out.2.2.1 HA.out.2.2.2
  simp only [Act.put, List.setIfInBounds_toArray, List.set_cons_succ, List.set_cons_zero]
  refine rel_val (v := .pointer (some ⟨g, 0, none⟩)) rfl (fun w' hw => by go_simp) ?_
  simp only [Act.put, List.setIfInBounds_toArray, List.set_cons_succ, List.set_cons_zero]
  refine rel_loadF (g) 0 x0 rfl rfl (fun w' hw => rx w' hw 0 _ rfl) ?_
  simp only [Act.put, List.setIfInBounds_toArray, List.set_cons_succ, List.set_cons_zero]
  refine rel_call (f := 32) (args := #[.float .f64 r1, .float .f64 x0]) rfl (fun w' hw => by go_simp) (fun w' hw => g32r hr1 HX.out.1 hw) (fun v hv => ?_)
  obtain rfl : v = .bool true := hv
  simp only [Act.put, List.setIfInBounds_toArray, List.set_cons_succ, List.set_cons_zero]
  refine rel_move (v := .bool true) rfl rfl ?_
  simp only [Act.put, List.setIfInBounds_toArray, List.set_cons_succ, List.set_cons_zero]
  refine rel_load_row (w.heap.size) 0 [.float .f64 a0, .float .f64 a1, .float .f64 a2, .float .f64 a3] _ rfl rfl ra Try.underlying58 rfl size58 ?_
  simp only [Act.put, List.setIfInBounds_toArray, List.set_cons_succ, List.set_cons_zero]
  refine rel_call (f := 49) (args := #[.agg #[.float .f64 a0, .float .f64 a1, .float .f64 a2, .float .f64 a3]]) rfl (fun w' hw => by go_simp) (fun w' hw => g49r HA.out.1 HA.out.2.1 HA.out.2.2.1 HA.out.2.2.2 hw) (fun v hv => ?_)
  obtain ⟨r2, rfl, hr2⟩ := G49r hv HA.out.1 HA.out.2.1 HA.out.2.2.1 HA.out.2.2.2
  simp only [Act.put, List.setIfInBounds_toArray, List.set_cons_succ, List.set_cons_zero]
  refine rel_val (v := .pointer (some ⟨g, 1, none⟩)) rfl (fun w' hw => by go_simp) ?_
  simp only [Act.put, List.setIfInBounds_toArray, List.set_cons_succ, List.set_cons_zero]
  refine rel_loadF (g) 1 x1 rfl rfl (fun w' hw => rx w' hw 1 _ rfl) ?_
  simp only [Act.put, List.setIfInBounds_toArray, List.set_cons_succ, List.set_cons_zero]
  refine rel_call (f := 32) (args := #[.float .f64 r2, .float .f64 x1]) rfl (fun w' hw => by go_simp) (fun w' hw => g32r hr2 HX.out.2.1 hw) (fun v hv => ?_)
  obtain rfl : v = .bool true := hv
  simp only [Act.put, List.setIfInBounds_toArray, List.set_cons_succ, List.set_cons_zero]
  refine rel_val (v := .bool true) rfl (fun w' hw => by go_simp) ?_
  simp only [Act.put, List.setIfInBounds_toArray, List.set_cons_succ, List.set_cons_zero]
  refine rel_move (v := .bool true) rfl rfl ?_
  simp only [Act.put, List.setIfInBounds_toArray, List.set_cons_succ, List.set_cons_zero]
  refine rel_load_row (w.heap.size) 0 [.float .f64 a0, .float .f64 a1, .float .f64 a2, .float .f64 a3] _ rfl rfl ra Try.underlying58 rfl size58 ?_
  simp only [Act.put, List.setIfInBounds_toArray, List.set_cons_succ, List.set_cons_zero]
  refine rel_call (f := 50) (args := #[.agg #[.float .f64 a0, .float .f64 a1, .float .f64 a2, .float .f64 a3]]) rfl (fun w' hw => by go_simp) (fun w' hw => g50r HA.out.1 HA.out.2.1 HA.out.2.2.1 HA.out.2.2.2 hw) (fun v hv => ?_)
  obtain ⟨r3, rfl, hr3⟩ := G50r hv HA.out.1 HA.out.2.1 HA.out.2.2.1 HA.out.2.2.2
  simp only [Act.put, List.setIfInBounds_toArray, List.set_cons_succ, List.set_cons_zero]
  refine rel_val (v := .pointer (some ⟨g, 2, none⟩)) rfl (fun w' hw => by go_simp) ?_
  simp only [Act.put, List.setIfInBounds_toArray, List.set_cons_succ, List.set_cons_zero]
  refine rel_loadF (g) 2 x2 rfl rfl (fun w' hw => rx w' hw 2 _ rfl) ?_
  simp only [Act.put, List.setIfInBounds_toArray, List.set_cons_succ, List.set_cons_zero]
  refine rel_call (f := 32) (args := #[.float .f64 r3, .float .f64 x2]) rfl (fun w' hw => by go_simp) (fun w' hw => g32r hr3 HX.out.2.2.1 hw) (fun v hv => ?_)
  obtain rfl : v = .bool true := hv
  simp only [Act.put, List.setIfInBounds_toArray, List.set_cons_succ, List.set_cons_zero]
  refine rel_val (v := .bool true) rfl (fun w' hw => by go_simp) ?_
  simp only [Act.put, List.setIfInBounds_toArray, List.set_cons_succ, List.set_cons_zero]
  refine rel_move (v := .bool true) rfl rfl ?_
  simp only [Act.put, List.setIfInBounds_toArray, List.set_cons_succ, List.set_cons_zero]
  refine rel_load_row (w.heap.size) 0 [.float .f64 a0, .float .f64 a1, .float .f64 a2, .float .f64 a3] _ rfl rfl ra Try.underlying58 rfl size58 ?_
  simp only [Act.put, List.setIfInBounds_toArray, List.set_cons_succ, List.set_cons_zero]
  refine rel_call (f := 51) (args := #[.agg #[.float .f64 a0, .float .f64 a1, .float .f64 a2, .float .f64 a3]]) rfl (fun w' hw => by go_simp) (fun w' hw => g51r HA.out.1 HA.out.2.1 HA.out.2.2.1 HA.out.2.2.2 hw) (fun v hv => ?_)
  obtain ⟨r4, rfl, hr4⟩ := G51r hv HA.out.1 HA.out.2.1 HA.out.2.2.1 HA.out.2.2.2
  simp only [Act.put, List.setIfInBounds_toArray, List.set_cons_succ, List.set_cons_zero]
  refine rel_val (v := .pointer (some ⟨g, 3, none⟩)) rfl (fun w' hw => by go_simp) ?_
  simp only [Act.put, List.setIfInBounds_toArray, List.set_cons_succ, List.set_cons_zero]
  refine rel_loadF (g) 3 x3 rfl rfl (fun w' hw => rx w' hw 3 _ rfl) ?_
  simp only [Act.put, List.setIfInBounds_toArray, List.set_cons_succ, List.set_cons_zero]
  refine rel_call (f := 32) (args := #[.float .f64 r4, .float .f64 x3]) rfl (fun w' hw => by go_simp) (fun w' hw => g32r hr4 HX.out.2.2.2 hw) (fun v hv => ?_)
  obtain rfl : v = .bool true := hv
  simp only [Act.put, List.setIfInBounds_toArray, List.set_cons_succ, List.set_cons_zero]
  refine rel_val (v := .bool true) rfl (fun w' hw => by go_simp) ?_
  simp only [Act.put, List.setIfInBounds_toArray, List.set_cons_succ, List.set_cons_zero]
  refine rel_assign (v := .bool true) rfl rfl ?_
  simp only [Act.put, List.setIfInBounds_toArray, List.set_cons_succ, List.set_cons_zero]
  refine rel_nil ?_
  intro w3 hB3
  have W3 := Lib.hid (hW.out.1.below hB3)
  clear hW hB3 ra rx HX
  obtain ⟨Q0, Q1, Q2, Q3, hQ⟩ := meet_places A0 A1 A2 A3 B0 B1 B2 B3
  have HQ := Lib.hid hQ
  generalize hmb : meetB A0 A1 A2 A3 B0 B1 B2 B3 = mb at *
  clear hQ hmb
  obtain ⟨y0, y1, y2, y3⟩ := cells4 W3.out.a.r
  obtain ⟨z0, z1, z2, z3⟩ := cells4 W3.out.b.r
  go_wp2_with fail
  refine (k52 HA.out.1 HA.out.2.1 HA.out.2.2.1 HA.out.2.2.2 HB.out.1 HB.out.2.1 HB.out.2.2.1 HB.out.2.2.2 _).mono ?_
  rintro e w4 ⟨he, h4⟩
  obtain ⟨m0, m1, m2, m3, rfl, hm⟩ := HQ.out e he
  have HM := Lib.hid hm
  have W4 := Lib.hid (And.intro ((W3.out.below h4).below (alloc_below w4 (.cells #[.float .f64 m0, .float .f64 m1, .float .f64 m2, .float .f64 m3] 58))) (kp_new w4 [.float .f64 m0, .float .f64 m1, .float .f64 m2, .float .f64 m3] 58))
  obtain ⟨s0, s1, s2, s3⟩ := store4n w4 58
  clear he hm h4 W3 y0 y1 y2 y3 z0 z1 z2 z3
  go_upto_region 5 with fail
  refine wp_gen (fun wx => Hid (Tri wx w [.float .f64 a0, .float .f64 a1, .float .f64 a2, .float .f64 a3] [.float .f64 b0, .float .f64 b1, .float .f64 b2, .float .f64 b3] [.float .f64 p0, .float .f64 p1, .float .f64 p2, .float .f64 p3] ∧ Kp wx w4.heap.size [.float .f64 m0, .float .f64 m1, .float .f64 m2, .float .f64 m3])) W4 ?_
  intro wd hW
  clear W4 s0 s1 s2 s3
  generalize w4.heap.size = g4 at *
  obtain ⟨y0, y1, y2, y3⟩ := cells4 hW.out.1.a.r
  obtain ⟨z0, z1, z2, z3⟩ := cells4 hW.out.1.b.r
  go_wp2_with fail
  refine (k53 HA.out.1 HA.out.2.1 HA.out.2.2.1 HA.out.2.2.2 HB.out.1 HB.out.2.1 HB.out.2.2.1 HB.out.2.2.2 _).mono ?_
  rintro e w5 ⟨he, h5⟩
  obtain ⟨n0, n1, n2, n3, rfl, hn⟩ := HQ.out e he
  have HN := Lib.hid hn
  have W5 := Lib.hid (And.intro ((hW.out.1.below h5).below (alloc_below w5 (.cells #[.float .f64 n0, .float .f64 n1, .float .f64 n2, .float .f64 n3] 58))) (And.intro ((hW.out.2.below h5).below (alloc_below w5 (.cells #[.float .f64 n0, .float .f64 n1, .float .f64 n2, .float .f64 n3] 58))) (kp_new w5 [.float .f64 n0, .float .f64 n1, .float .f64 n2, .float .f64 n3] 58)))
  obtain ⟨s0, s1, s2, s3⟩ := store4n w5 58
  clear he hn h5 hW y0 y1 y2 y3 z0 z1 z2 z3
  go_upto_region 6 with fail
  refine wp_gen (fun wx => Hid (Tri wx w [.float .f64 a0, .float .f64 a1, .float .f64 a2, .float .f64 a3] [.float .f64 b0, .float .f64 b1, .float .f64 b2, .float .f64 b3] [.float .f64 p0, .float .f64 p1, .float .f64 p2, .float .f64 p3] ∧ Kp wx g4 [.float .f64 m0, .float .f64 m1, .float .f64 m2, .float .f64 m3] ∧ Kp wx w5.heap.size [.float .f64 n0, .float .f64 n1, .float .f64 n2, .float .f64 n3])) W5 ?_
  intro we hW
  clear W5 s0 s1 s2 s3
  generalize w5.heap.size = g5 at *
  have ra : ∀ w', Below we.heap.size we w' → w'.rangeAt w.heap.size 0 [.float .f64 a0, .float .f64 a1, .float .f64 a2, .float .f64 a3] := fun w' hw => (hW.out.1.a.below hw).r
  have rb : ∀ w', Below we.heap.size we w' → w'.rangeAt (w.heap.size + 1) 0 [.float .f64 b0, .float .f64 b1, .float .f64 b2, .float .f64 b3] := fun w' hw => (hW.out.1.b.below hw).r
  have rp : ∀ w', Below we.heap.size we w' → w'.rangeAt (w.heap.size + 1 + 1) 0 [.float .f64 p0, .float .f64 p1, .float .f64 p2, .float .f64 p3] := fun w' hw => (hW.out.1.c.below hw).r
  have rm : ∀ w', Below we.heap.size we w' → w'.rangeAt g4 0 [.float .f64 m0, .float .f64 m1, .float .f64 m2, .float .f64 m3] := fun w' hw => (hW.out.2.1.below hw).r
  have rn : ∀ w', Below we.heap.size we w' → w'.rangeAt g5 0 [.float .f64 n0, .float .f64 n1, .float .f64 n2, .float .f64 n3] := fun w' hw => (hW.out.2.2.below hw).r
  obtain ⟨hasB, hhas⟩ : ∃ hasB, hasP A0 A1 A2 A3 P0 P1 = hasB := ⟨_, rfl⟩
  refine wp_region_rel 39 (fun w' => Below we.heap.size we w') (GR (hasP A0 A1 A2 A3 P0 P1)) (by kernel_rfl) (by kernel_rfl) ((Below.refl _ _).drew) ?_
  simp only [List.take_succ_cons, List.take_zero, List.drop_succ_cons, List.drop_zero]
  refine rel_move (v := .bool true) rfl rfl ?_
  simp only [Act.put, List.setIfInBounds_toArray, List.set_cons_succ, List.set_cons_zero]
  refine rel_move (v := .bool true) rfl rfl ?_
  simp only [Act.put, List.setIfInBounds_toArray, List.set_cons_succ, List.set_cons_zero]
  refine rel_move (v := .bool true) rfl rfl ?_
  simp only [Act.put, List.setIfInBounds_toArray, List.set_cons_succ, List.set_cons_zero]
  refine rel_val (v := .bool true) rfl (fun w' hw => by go_simp) ?_
  simp only [Act.put, List.setIfInBounds_toArray, List.set_cons_succ, List.set_cons_zero]
  refine rel_move (v := .bool true) rfl rfl ?_
  simp only [Act.put, List.setIfInBounds_toArray, List.set_cons_succ, List.set_cons_zero]
  refine rel_load_row (w.heap.size) 0 [.float .f64 a0, .float .f64 a1, .float .f64 a2, .float .f64 a3] _ rfl rfl ra Try.underlying58 rfl size58 ?_
  simp only [Act.put, List.setIfInBounds_toArray, List.set_cons_succ, List.set_cons_zero]
  refine rel_load_row (w.heap.size + 1) 0 [.float .f64 b0, .float .f64 b1, .float .f64 b2, .float .f64 b3] _ rfl rfl rb Try.underlying58 rfl size58 ?_
  simp only [Act.put, List.setIfInBounds_toArray, List.set_cons_succ, List.set_cons_zero]
  refine rel_call (f := 55) (args := #[.agg #[.float .f64 a0, .float .f64 a1, .float .f64 a2, .float .f64 a3], .agg #[.float .f64 b0, .float .f64 b1, .float .f64 b2, .float .f64 b3]]) rfl (fun w' hw => by go_simp) (fun w' hw => g55r HA.out.1 HA.out.2.1 HA.out.2.2.1 HA.out.2.2.2 HB.out.1 HB.out.2.1 HB.out.2.2.1 HB.out.2.2.2 hw) (fun v hv => ?_)
  obtain ⟨s1, s2, s3, s4, rfl, hs1, hs2, hs3, hs4⟩ := G55r hv HA.out.1 HA.out.2.1 HA.out.2.2.1 HA.out.2.2.2 HB.out.1 HB.out.2.1 HB.out.2.2.1 HB.out.2.2.2
  simp only [Act.put, List.setIfInBounds_toArray, List.set_cons_succ, List.set_cons_zero]
  refine rel_load_row (w.heap.size) 0 [.float .f64 a0, .float .f64 a1, .float .f64 a2, .float .f64 a3] _ rfl rfl ra Try.underlying58 rfl size58 ?_
  simp only [Act.put, List.setIfInBounds_toArray, List.set_cons_succ, List.set_cons_zero]
  refine rel_load_row (w.heap.size + 1) 0 [.float .f64 b0, .float .f64 b1, .float .f64 b2, .float .f64 b3] _ rfl rfl rb Try.underlying58 rfl size58 ?_
  simp only [Act.put, List.setIfInBounds_toArray, List.set_cons_succ, List.set_cons_zero]
  refine rel_call (f := 56) (args := #[.agg #[.float .f64 a0, .float .f64 a1, .float .f64 a2, .float .f64 a3], .agg #[.float .f64 b0, .float .f64 b1, .float .f64 b2, .float .f64 b3]]) rfl (fun w' hw => by go_simp) (fun w' hw => g56r HA.out.1 HA.out.2.1 HA.out.2.2.1 HA.out.2.2.2 HB.out.1 HB.out.2.1 HB.out.2.2.1 HB.out.2.2.2 hw) (fun v hv => ?_)
  obtain ⟨s5, s6, s7, s8, rfl, hs5, hs6, hs7, hs8⟩ := G56r hv HA.out.1 HA.out.2.1 HA.out.2.2.1 HA.out.2.2.2 HB.out.1 HB.out.2.1 HB.out.2.2.1 HB.out.2.2.2
  simp only [Act.put, List.setIfInBounds_toArray, List.set_cons_succ, List.set_cons_zero]
  refine rel_call (f := 54) (args := #[.agg #[.float .f64 s1, .float .f64 s2, .float .f64 s3, .float .f64 s4], .agg #[.float .f64 s5, .float .f64 s6, .float .f64 s7, .float .f64 s8]]) rfl (fun w' hw => by go_simp) (fun w' hw => g54r hs1 hs5 hs2 hs6 hs3 hs7 hs4 hs8 hw) (fun v hv => ?_)
  obtain rfl : v = .bool true := hv
  simp only [Act.put, List.setIfInBounds_toArray, List.set_cons_succ, List.set_cons_zero]
  refine rel_val (v := .bool true) rfl (fun w' hw => by go_simp) ?_
  simp only [Act.put, List.setIfInBounds_toArray, List.set_cons_succ, List.set_cons_zero]
  refine rel_move (v := .bool true) rfl rfl ?_
  simp only [Act.put, List.setIfInBounds_toArray, List.set_cons_succ, List.set_cons_zero]
  refine rel_move (v := .bool mb) rfl rfl ?_
  simp only [Act.put, List.setIfInBounds_toArray, List.set_cons_succ, List.set_cons_zero]
  refine rel_move (v := .bool mb) rfl rfl ?_
  simp only [Act.put, List.setIfInBounds_toArray, List.set_cons_succ, List.set_cons_zero]
  refine rel_val (v := .bool true) rfl (fun w' hw => by go_simp) ?_
  simp only [Act.put, List.setIfInBounds_toArray, List.set_cons_succ, List.set_cons_zero]
  refine rel_val (v := .bool true) rfl (fun w' hw => by go_simp) ?_
  simp only [Act.put, List.setIfInBounds_toArray, List.set_cons_succ, List.set_cons_zero]
  refine rel_move (v := .bool true) rfl rfl ?_
  simp only [Act.put, List.setIfInBounds_toArray, List.set_cons_succ, List.set_cons_zero]
  refine rel_load_row (g4) 0 [.float .f64 m0, .float .f64 m1, .float .f64 m2, .float .f64 m3] _ rfl rfl rm Try.underlying58 rfl size58 ?_
  simp only [Act.put, List.setIfInBounds_toArray, List.set_cons_succ, List.set_cons_zero]
  refine rel_load_row (g5) 0 [.float .f64 n0, .float .f64 n1, .float .f64 n2, .float .f64 n3] _ rfl rfl rn Try.underlying58 rfl size58 ?_
  simp only [Act.put, List.setIfInBounds_toArray, List.set_cons_succ, List.set_cons_zero]
  refine rel_call (f := 54) (args := #[.agg #[.float .f64 m0, .float .f64 m1, .float .f64 m2, .float .f64 m3], .agg #[.float .f64 n0, .float .f64 n1, .float .f64 n2, .float .f64 n3]]) rfl (fun w' hw => by go_simp) (fun w' hw => g54r HM.out.1 HN.out.1 HM.out.2.1 HN.out.2.1 HM.out.2.2.1 HN.out.2.2.1 HM.out.2.2.2 HN.out.2.2.2 hw) (fun v hv => ?_)
  obtain rfl : v = .bool true := hv
  simp only [Act.put, List.setIfInBounds_toArray, List.set_cons_succ, List.set_cons_zero]
  refine rel_val (v := .bool true) rfl (fun w' hw => by go_simp) ?_
  simp only [Act.put, List.setIfInBounds_toArray, List.set_cons_succ, List.set_cons_zero]
  refine rel_move (v := .bool true) rfl rfl ?_
  simp only [Act.put, List.setIfInBounds_toArray, List.set_cons_succ, List.set_cons_zero]
  refine rel_load_row (w.heap.size) 0 [.float .f64 a0, .float .f64 a1, .float .f64 a2, .float .f64 a3] _ rfl rfl ra Try.underlying58 rfl size58 ?_
  simp only [Act.put, List.setIfInBounds_toArray, List.set_cons_succ, List.set_cons_zero]
  refine rel_val (v := .pointer (some ⟨w.heap.size + 1 + 1, 0, none⟩)) rfl (fun w' hw => by go_simp) ?_
  simp only [Act.put, List.setIfInBounds_toArray, List.set_cons_succ, List.set_cons_zero]
  refine rel_loadF (w.heap.size + 1 + 1) 0 p0 rfl rfl (fun w' hw => rp w' hw 0 _ rfl) ?_
  simp only [Act.put, List.setIfInBounds_toArray, List.set_cons_succ, List.set_cons_zero]
  refine rel_val (v := .pointer (some ⟨w.heap.size + 1 + 1, 1, none⟩)) rfl (fun w' hw => by go_simp) ?_
  simp only [Act.put, List.setIfInBounds_toArray, List.set_cons_succ, List.set_cons_zero]
  refine rel_loadF (w.heap.size + 1 + 1) 1 p1 rfl rfl (fun w' hw => rp w' hw 1 _ rfl) ?_
  simp only [Act.put, List.setIfInBounds_toArray, List.set_cons_succ, List.set_cons_zero]
  refine rel_call (f := 57) (args := #[.agg #[.float .f64 a0, .float .f64 a1, .float .f64 a2, .float .f64 a3], .float .f64 p0, .float .f64 p1]) rfl (fun w' hw => by go_simp) (fun w' hw => g57r HA.out.1 HA.out.2.1 HA.out.2.2.1 HA.out.2.2.2 HP.out.1 HP.out.2.1 hw) (fun v hv => ?_)
  obtain rfl : v = .bool (hasP A0 A1 A2 A3 P0 P1) := hv
  simp only [Act.put, List.setIfInBounds_toArray, List.set_cons_succ, List.set_cons_zero]
  refine rel_load_row (w.heap.size) 0 [.float .f64 a0, .float .f64 a1, .float .f64 a2, .float .f64 a3] _ rfl rfl ra Try.underlying58 rfl size58 ?_
  simp only [Act.put, List.setIfInBounds_toArray, List.set_cons_succ, List.set_cons_zero]
  refine rel_val (v := .pointer (some ⟨w.heap.size + 1 + 1, 0, none⟩)) rfl (fun w' hw => by go_simp) ?_
  simp only [Act.put, List.setIfInBounds_toArray, List.set_cons_succ, List.set_cons_zero]
  refine rel_loadF (w.heap.size + 1 + 1) 0 p0 rfl rfl (fun w' hw => rp w' hw 0 _ rfl) ?_
  simp only [Act.put, List.setIfInBounds_toArray, List.set_cons_succ, List.set_cons_zero]
  refine rel_val (v := .pointer (some ⟨w.heap.size + 1 + 1, 1, none⟩)) rfl (fun w' hw => by go_simp) ?_
  simp only [Act.put, List.setIfInBounds_toArray, List.set_cons_succ, List.set_cons_zero]
  refine rel_loadF (w.heap.size + 1 + 1) 1 p1 rfl rfl (fun w' hw => rp w' hw 1 _ rfl) ?_
  simp only [Act.put, List.setIfInBounds_toArray, List.set_cons_succ, List.set_cons_zero]
  refine rel_call (f := 58) (args := #[.agg #[.float .f64 a0, .float .f64 a1, .float .f64 a2, .float .f64 a3], .float .f64 p0, .float .f64 p1]) rfl (fun w' hw => by go_simp) (fun w' hw => g58r HA.out.1 HA.out.2.1 HA.out.2.2.1 HA.out.2.2.2 HP.out.1 HP.out.2.1 hw) (fun v hv => ?_)
  obtain rfl : v = .bool (hasP A0 A1 A2 A3 P0 P1) := hv
  simp only [Act.put, List.setIfInBounds_toArray, List.set_cons_succ, List.set_cons_zero]
  refine rel_val (v := .bool true) rfl (fun w' hw => by go_simp) ?_
  simp only [Act.put, List.setIfInBounds_toArray, List.set_cons_succ, List.set_cons_zero]
  refine rel_val (v := .bool true) rfl (fun w' hw => by go_simp) ?_
  simp only [Act.put, List.setIfInBounds_toArray, List.set_cons_succ, List.set_cons_zero]
  refine rel_assign (v := .bool true) rfl rfl ?_
  simp only [Act.put, List.setIfInBounds_toArray, List.set_cons_succ, List.set_cons_zero]
  refine rel_nil ?_
  intro w6 hB6
  have B6 := Lib.hid (below_trans hW.out.1.o hB6)
  clear hB6 hW ra rb rp rm rn
  go_wp2
  go_ret
  exact ⟨rfl, B6.out⟩
end Go.Proofs.Ytelalledjbeenaa
