/- The walk of GeomUnions: printed by geo16.py. -/
import Derived.Test.YtelalledjbeenaaGeoT
import Derived.Test.YtelalledjbeenaaUniP
namespace Go.Proofs.Ytelalledjbeenaa
open Go.RowKit Fl

structure Duo (wx w : World) (A B : List Value) : Prop where
  a : Kp wx w.heap.size A
  b : Kp wx (w.heap.size + 1) B
  o : Below w.heap.size w wx
theorem Duo.below {wx wy w : World} {A B : List Value} (h : Duo wx w A B) (hb : Below wx.heap.size wx wy) : Duo wy w A B := ⟨h.a.below hb, h.b.below hb, below_trans h.o hb⟩
theorem duo_entry (w : World) (A B : List Value) (s t : TypeId) : Duo ((w.alloc (.cells A.toArray s)).alloc (.cells B.toArray t)) w A B := by
  have e1 : (w.alloc (.cells A.toArray s)).heap.size = w.heap.size + 1 := by simp
  have k2 := kp_new (w.alloc (.cells A.toArray s)) B t
  rw [e1] at k2
  exact ⟨(kp_new w A s).below (alloc_below _ _), k2, below_trans (alloc_below w _) (alloc_below _ _)⟩
set_option maxRecDepth 100000 in
set_option maxHeartbeats 2000000 in
theorem walkGeomUnions {a0 a1 a2 a3 b0 b1 b2 b3 : Nat} (ha0 : U a0) (ha1 : U a1) (ha2 : U a2) (ha3 : U a3) (hb0 : U b0) (hb1 : U b1) (hb2 : U b2) (hb3 : U b3) (w : World) :
    Calls Try.prog 11 #[.agg #[.float .f64 a0, .float .f64 a1, .float .f64 a2, .float .f64 a3], .agg #[.float .f64 b0, .float .f64 b1, .float .f64 b2, .float .f64 b3]] w fun e w' => e = .returned (.bool true) ∧ Below w.heap.size w w' := by
  obtain ⟨A0, qa0⟩ : ∃ P, RV a0 P := ⟨_, RV.self ha0⟩
  obtain ⟨A1, qa1⟩ : ∃ P, RV a1 P := ⟨_, RV.self ha1⟩
  obtain ⟨A2, qa2⟩ : ∃ P, RV a2 P := ⟨_, RV.self ha2⟩
  obtain ⟨A3, qa3⟩ : ∃ P, RV a3 P := ⟨_, RV.self ha3⟩
  obtain ⟨B0, qb0⟩ : ∃ P, RV b0 P := ⟨_, RV.self hb0⟩
  obtain ⟨B1, qb1⟩ : ∃ P, RV b1 P := ⟨_, RV.self hb1⟩
  obtain ⟨B2, qb2⟩ : ∃ P, RV b2 P := ⟨_, RV.self hb2⟩
  obtain ⟨B3, qb3⟩ : ∃ P, RV b3 P := ⟨_, RV.self hb3⟩
  have HA := Lib.hid (And.intro qa0 (And.intro qa1 (And.intro qa2 qa3)))
  have HB := Lib.hid (And.intro qb0 (And.intro qb1 (And.intro qb2 qb3)))
  clear ha0 qa0 ha1 qa1 ha2 qa2 ha3 qa3 hb0 qb0 hb1 qb1 hb2 qb2 hb3 qb3
  obtain ⟨Q0, Q1, Q2, Q3, hQ⟩ := meet_places A0 A1 A2 A3 B0 B1 B2 B3
  have HQ := Lib.hid (And.intro hQ (fun e (h : MeetR B0 B1 B2 B3 A0 A1 A2 A3 e) => hQ e (MeetR_comm A0 A1 A2 A3 B0 B1 B2 B3 e h)))
  generalize hmb : meetB A0 A1 A2 A3 B0 B1 B2 B3 = mb at *
  clear hQ hmb
  go_enter Try.func11, Try.ntmps11
  go_wp2_with fail
  refine (k46 _).mono ?_
  rintro e w1 ⟨rfl, h1⟩
  have W1 := Lib.hid ((duo_entry w [.float .f64 a0, .float .f64 a1, .float .f64 a2, .float .f64 a3] [.float .f64 b0, .float .f64 b1, .float .f64 b2, .float .f64 b3] 58 58).below h1)
  clear h1
  obtain ⟨y0, y1, y2, y3⟩ := cells4 W1.out.a.r
  obtain ⟨z0, z1, z2, z3⟩ := cells4 W1.out.b.r
  go_wp2_with fail
  refine (k52 HA.out.1 HA.out.2.1 HA.out.2.2.1 HA.out.2.2.2 HB.out.1 HB.out.2.1 HB.out.2.2.1 HB.out.2.2.2 _).mono ?_
  rintro e w4 ⟨he, h4⟩
  obtain ⟨m0, m1, m2, m3, rfl, hm⟩ := HQ.out.1 e he
  have HM := Lib.hid hm
  have W4 := Lib.hid (And.intro ((W1.out.below h4).below (alloc_below w4 (.cells #[.float .f64 m0, .float .f64 m1, .float .f64 m2, .float .f64 m3] 58))) (kp_new w4 [.float .f64 m0, .float .f64 m1, .float .f64 m2, .float .f64 m3] 58))
  obtain ⟨s0, s1, s2, s3⟩ := store4n w4 58
  clear he hm h4 W1 y0 y1 y2 y3 z0 z1 z2 z3
  go_upto_region 3 with fail
  refine wp_gen (fun wx => Hid (Duo wx w [.float .f64 a0, .float .f64 a1, .float .f64 a2, .float .f64 a3] [.float .f64 b0, .float .f64 b1, .float .f64 b2, .float .f64 b3] ∧ Kp wx w4.heap.size [.float .f64 m0, .float .f64 m1, .float .f64 m2, .float .f64 m3])) W4 ?_
  intro wd hW
  clear W4 s0 s1 s2 s3
  generalize w4.heap.size = g4 at *
  obtain ⟨y0, y1, y2, y3⟩ := cells4 hW.out.1.a.r
  obtain ⟨z0, z1, z2, z3⟩ := cells4 hW.out.1.b.r
  go_wp2_with fail
  refine (k52 HB.out.1 HB.out.2.1 HB.out.2.2.1 HB.out.2.2.2 HA.out.1 HA.out.2.1 HA.out.2.2.1 HA.out.2.2.2 _).mono ?_
  rintro e w5 ⟨he, h5⟩
  obtain ⟨n0, n1, n2, n3, rfl, hn⟩ := HQ.out.2 e he
  have HN := Lib.hid hn
  have W5 := Lib.hid (And.intro ((hW.out.1.below h5).below (alloc_below w5 (.cells #[.float .f64 n0, .float .f64 n1, .float .f64 n2, .float .f64 n3] 58))) (And.intro ((hW.out.2.below h5).below (alloc_below w5 (.cells #[.float .f64 n0, .float .f64 n1, .float .f64 n2, .float .f64 n3] 58))) (kp_new w5 [.float .f64 n0, .float .f64 n1, .float .f64 n2, .float .f64 n3] 58)))
  obtain ⟨s0, s1, s2, s3⟩ := store4n w5 58
  clear he hn h5 hW y0 y1 y2 y3 z0 z1 z2 z3
  go_upto_region 4 with fail
  refine wp_gen (fun wx => Hid (Duo wx w [.float .f64 a0, .float .f64 a1, .float .f64 a2, .float .f64 a3] [.float .f64 b0, .float .f64 b1, .float .f64 b2, .float .f64 b3] ∧ Kp wx g4 [.float .f64 m0, .float .f64 m1, .float .f64 m2, .float .f64 m3] ∧ Kp wx w5.heap.size [.float .f64 n0, .float .f64 n1, .float .f64 n2, .float .f64 n3])) W5 ?_
  intro we hW
  clear W5 s0 s1 s2 s3 HQ
  generalize w5.heap.size = g5 at *
  have ra : ∀ w', Below we.heap.size we w' → w'.rangeAt w.heap.size 0 [.float .f64 a0, .float .f64 a1, .float .f64 a2, .float .f64 a3] := fun w' hw => (hW.out.1.a.below hw).r
  have rb : ∀ w', Below we.heap.size we w' → w'.rangeAt (w.heap.size + 1) 0 [.float .f64 b0, .float .f64 b1, .float .f64 b2, .float .f64 b3] := fun w' hw => (hW.out.1.b.below hw).r
  have rm : ∀ w', Below we.heap.size we w' → w'.rangeAt g4 0 [.float .f64 m0, .float .f64 m1, .float .f64 m2, .float .f64 m3] := fun w' hw => (hW.out.2.1.below hw).r
  have rn : ∀ w', Below we.heap.size we w' → w'.rangeAt g5 0 [.float .f64 n0, .float .f64 n1, .float .f64 n2, .float .f64 n3] := fun w' hw => (hW.out.2.2.below hw).r
  refine wp_region_rel 19 (fun w' => Below we.heap.size we w') (GR true) (by kernel_rfl) (by kernel_rfl) ((Below.refl _ _).drew) ?_
  simp only [List.take_succ_cons, List.take_zero, List.drop_succ_cons, List.drop_zero]
  refine rel_load_row (w.heap.size) 0 [.float .f64 a0, .float .f64 a1, .float .f64 a2, .float .f64 a3] _ rfl rfl ra Try.underlying58 rfl size58 ?_
  simp only [Act.put, List.setIfInBounds_toArray, List.set_cons_succ, List.set_cons_zero]
  refine rel_load_row (w.heap.size + 1) 0 [.float .f64 b0, .float .f64 b1, .float .f64 b2, .float .f64 b3] _ rfl rfl rb Try.underlying58 rfl size58 ?_
  simp only [Act.put, List.setIfInBounds_toArray, List.set_cons_succ, List.set_cons_zero]
  refine rel_call (f := 55) (args := #[.agg #[.float .f64 a0, .float .f64 a1, .float .f64 a2, .float .f64 a3], .agg #[.float .f64 b0, .float .f64 b1, .float .f64 b2, .float .f64 b3]]) rfl (fun w' hw => by go_simp) (fun w' hw => g55r HA.out.1 HA.out.2.1 HA.out.2.2.1 HA.out.2.2.2 HB.out.1 HB.out.2.1 HB.out.2.2.1 HB.out.2.2.2 hw) (fun v hv => ?_)
  obtain ⟨s1, s2, s3, s4, rfl, hs1, hs2, hs3, hs4⟩ := G55r hv HA.out.1 HA.out.2.1 HA.out.2.2.1 HA.out.2.2.2 HB.out.1 HB.out.2.1 HB.out.2.2.1 HB.out.2.2.2
  simp only [Act.put, List.setIfInBounds_toArray, List.set_cons_succ, List.set_cons_zero]
  refine rel_load_row (w.heap.size + 1) 0 [.float .f64 b0, .float .f64 b1, .float .f64 b2, .float .f64 b3] _ rfl rfl rb Try.underlying58 rfl size58 ?_
  simp only [Act.put, List.setIfInBounds_toArray, List.set_cons_succ, List.set_cons_zero]
  refine rel_load_row (w.heap.size) 0 [.float .f64 a0, .float .f64 a1, .float .f64 a2, .float .f64 a3] _ rfl rfl ra Try.underlying58 rfl size58 ?_
  simp only [Act.put, List.setIfInBounds_toArray, List.set_cons_succ, List.set_cons_zero]
  refine rel_call (f := 55) (args := #[.agg #[.float .f64 b0, .float .f64 b1, .float .f64 b2, .float .f64 b3], .agg #[.float .f64 a0, .float .f64 a1, .float .f64 a2, .float .f64 a3]]) rfl (fun w' hw => by go_simp) (fun w' hw => g55r HB.out.1 HB.out.2.1 HB.out.2.2.1 HB.out.2.2.2 HA.out.1 HA.out.2.1 HA.out.2.2.1 HA.out.2.2.2 hw) (fun v hv => ?_)
  obtain ⟨s5, s6, s7, s8, rfl, hs5, hs6, hs7, hs8⟩ := G55r hv HB.out.1 HB.out.2.1 HB.out.2.2.1 HB.out.2.2.2 HA.out.1 HA.out.2.1 HA.out.2.2.1 HA.out.2.2.2
  rw [minP_comm (loP B0 B2) (loP A0 A2)] at hs5
  rw [minP_comm (loP B1 B3) (loP A1 A3)] at hs6
  rw [maxP_comm (hiP B0 B2) (hiP A0 A2), minP_comm (loP B0 B2) (loP A0 A2)] at hs7
  rw [maxP_comm (hiP B1 B3) (hiP A1 A3), minP_comm (loP B1 B3) (loP A1 A3)] at hs8
  simp only [Act.put, List.setIfInBounds_toArray, List.set_cons_succ, List.set_cons_zero]
  refine rel_call (f := 54) (args := #[.agg #[.float .f64 s1, .float .f64 s2, .float .f64 s3, .float .f64 s4], .agg #[.float .f64 s5, .float .f64 s6, .float .f64 s7, .float .f64 s8]]) rfl (fun w' hw => by go_simp) (fun w' hw => g54r hs1 hs5 hs2 hs6 hs3 hs7 hs4 hs8 hw) (fun v hv => ?_)
  obtain rfl : v = .bool true := hv
  simp only [Act.put, List.setIfInBounds_toArray, List.set_cons_succ, List.set_cons_zero]
  refine rel_val (v := .bool false) rfl (fun w' hw => by go_simp) ?_
  simp only [Act.put, List.setIfInBounds_toArray, List.set_cons_succ, List.set_cons_zero]
  refine rel_move (v := .bool false) rfl rfl ?_
  simp only [Act.put, List.setIfInBounds_toArray, List.set_cons_succ, List.set_cons_zero]
  refine rel_load_row (g4) 0 [.float .f64 m0, .float .f64 m1, .float .f64 m2, .float .f64 m3] _ rfl rfl rm Try.underlying58 rfl size58 ?_
  simp only [Act.put, List.setIfInBounds_toArray, List.set_cons_succ, List.set_cons_zero]
  refine rel_load_row (g5) 0 [.float .f64 n0, .float .f64 n1, .float .f64 n2, .float .f64 n3] _ rfl rfl rn Try.underlying58 rfl size58 ?_
  simp only [Act.put, List.setIfInBounds_toArray, List.set_cons_succ, List.set_cons_zero]
  refine rel_call (f := 54) (args := #[.agg #[.float .f64 m0, .float .f64 m1, .float .f64 m2, .float .f64 m3], .agg #[.float .f64 n0, .float .f64 n1, .float .f64 n2, .float .f64 n3]]) rfl (fun w' hw => by go_simp) (fun w' hw => g54r HM.out.1 HN.out.1 HM.out.2.1 HN.out.2.1 HM.out.2.2.1 HN.out.2.2.1 HM.out.2.2.2 HN.out.2.2.2 hw) (fun v hv => ?_)
  obtain rfl : v = .bool true := hv
  simp only [Act.put, List.setIfInBounds_toArray, List.set_cons_succ, List.set_cons_zero]
  refine rel_val (v := .bool false) rfl (fun w' hw => by go_simp) ?_
  simp only [Act.put, List.setIfInBounds_toArray, List.set_cons_succ, List.set_cons_zero]
  refine rel_pick_f (v := .bool false) rfl rfl rfl ?_
  simp only [Act.put, List.setIfInBounds_toArray, List.set_cons_succ, List.set_cons_zero]
  refine rel_move (v := .bool false) rfl rfl ?_
  simp only [Act.put, List.setIfInBounds_toArray, List.set_cons_succ, List.set_cons_zero]
  refine rel_move (v := .bool mb) rfl rfl ?_
  simp only [Act.put, List.setIfInBounds_toArray, List.set_cons_succ, List.set_cons_zero]
  refine rel_move (v := .bool mb) rfl rfl ?_
  simp only [Act.put, List.setIfInBounds_toArray, List.set_cons_succ, List.set_cons_zero]
  refine rel_val (v := .bool false) rfl (fun w' hw => by go_simp) ?_
  simp only [Act.put, List.setIfInBounds_toArray, List.set_cons_succ, List.set_cons_zero]
  refine rel_pick_f (v := .bool false) rfl rfl rfl ?_
  simp only [Act.put, List.setIfInBounds_toArray, List.set_cons_succ, List.set_cons_zero]
  refine rel_nil ?_
  intro w6 hB6
  have W6 := Lib.hid (hW.out.1.below hB6)
  clear hB6 hW ra rb rm rn HM HN HB
  go_upto_region 6 with fail
  refine wp_gen (fun wx => Hid (Duo wx w [.float .f64 a0, .float .f64 a1, .float .f64 a2, .float .f64 a3] [.float .f64 b0, .float .f64 b1, .float .f64 b2, .float .f64 b3])) W6 ?_
  intro wf hW
  clear W6
  have ra : ∀ w', Below wf.heap.size wf w' → w'.rangeAt w.heap.size 0 [.float .f64 a0, .float .f64 a1, .float .f64 a2, .float .f64 a3] := fun w' hw => (hW.out.a.below hw).r
  refine wp_region_rel 12 (fun w' => Below wf.heap.size wf w') (GR true) (by kernel_rfl) (by kernel_rfl) ((Below.refl _ _).drew) ?_
  simp only [List.take_succ_cons, List.take_zero, List.drop_succ_cons, List.drop_zero]
  refine rel_load_row (w.heap.size) 0 [.float .f64 a0, .float .f64 a1, .float .f64 a2, .float .f64 a3] _ rfl rfl ra Try.underlying58 rfl size58 ?_
  simp only [Act.put, List.setIfInBounds_toArray, List.set_cons_succ, List.set_cons_zero]
  refine rel_call (f := 48) (args := #[.agg #[.float .f64 a0, .float .f64 a1, .float .f64 a2, .float .f64 a3]]) rfl (fun w' hw => by go_simp) (fun w' hw => g48r HA.out.1 HA.out.2.1 HA.out.2.2.1 HA.out.2.2.2 hw) (fun v hv => ?_)
  obtain ⟨t1, rfl, ht1⟩ := G48r hv HA.out.1 HA.out.2.1 HA.out.2.2.1 HA.out.2.2.2
  simp only [Act.put, List.setIfInBounds_toArray, List.set_cons_succ, List.set_cons_zero]
  refine rel_load_row (w.heap.size) 0 [.float .f64 a0, .float .f64 a1, .float .f64 a2, .float .f64 a3] _ rfl rfl ra Try.underlying58 rfl size58 ?_
  simp only [Act.put, List.setIfInBounds_toArray, List.set_cons_succ, List.set_cons_zero]
  refine rel_call (f := 49) (args := #[.agg #[.float .f64 a0, .float .f64 a1, .float .f64 a2, .float .f64 a3]]) rfl (fun w' hw => by go_simp) (fun w' hw => g49r HA.out.1 HA.out.2.1 HA.out.2.2.1 HA.out.2.2.2 hw) (fun v hv => ?_)
  obtain ⟨t2, rfl, ht2⟩ := G49r hv HA.out.1 HA.out.2.1 HA.out.2.2.1 HA.out.2.2.2
  simp only [Act.put, List.setIfInBounds_toArray, List.set_cons_succ, List.set_cons_zero]
  refine rel_load_row (w.heap.size) 0 [.float .f64 a0, .float .f64 a1, .float .f64 a2, .float .f64 a3] _ rfl rfl ra Try.underlying58 rfl size58 ?_
  simp only [Act.put, List.setIfInBounds_toArray, List.set_cons_succ, List.set_cons_zero]
  refine rel_call (f := 50) (args := #[.agg #[.float .f64 a0, .float .f64 a1, .float .f64 a2, .float .f64 a3]]) rfl (fun w' hw => by go_simp) (fun w' hw => g50r HA.out.1 HA.out.2.1 HA.out.2.2.1 HA.out.2.2.2 hw) (fun v hv => ?_)
  obtain ⟨t3, rfl, ht3⟩ := G50r hv HA.out.1 HA.out.2.1 HA.out.2.2.1 HA.out.2.2.2
  simp only [Act.put, List.setIfInBounds_toArray, List.set_cons_succ, List.set_cons_zero]
  refine rel_load_row (w.heap.size) 0 [.float .f64 a0, .float .f64 a1, .float .f64 a2, .float .f64 a3] _ rfl rfl ra Try.underlying58 rfl size58 ?_
  simp only [Act.put, List.setIfInBounds_toArray, List.set_cons_succ, List.set_cons_zero]
  refine rel_call (f := 51) (args := #[.agg #[.float .f64 a0, .float .f64 a1, .float .f64 a2, .float .f64 a3]]) rfl (fun w' hw => by go_simp) (fun w' hw => g51r HA.out.1 HA.out.2.1 HA.out.2.2.1 HA.out.2.2.2 hw) (fun v hv => ?_)
  obtain ⟨t4, rfl, ht4⟩ := G51r hv HA.out.1 HA.out.2.1 HA.out.2.2.1 HA.out.2.2.2
  simp only [Act.put, List.setIfInBounds_toArray, List.set_cons_succ, List.set_cons_zero]
  refine rel_assign (v := .float .f64 t1) rfl rfl ?_
  simp only [Act.put, List.setIfInBounds_toArray, List.set_cons_succ, List.set_cons_zero]
  refine rel_assign (v := .float .f64 t2) rfl rfl ?_
  simp only [Act.put, List.setIfInBounds_toArray, List.set_cons_succ, List.set_cons_zero]
  refine rel_assign (v := .float .f64 t3) rfl rfl ?_
  simp only [Act.put, List.setIfInBounds_toArray, List.set_cons_succ, List.set_cons_zero]
  refine rel_assign (v := .float .f64 t4) rfl rfl ?_
  simp only [Act.put, List.setIfInBounds_toArray, List.set_cons_succ, List.set_cons_zero]
  refine rel_nil ?_
  intro w7 hB7
  have W7 := Lib.hid (hW.out.below hB7)
  have HX := Lib.hid (And.intro ht1 (And.intro ht2 (And.intro ht3 ht4)))
  clear hB7 hW ra ht1 ht2 ht3 ht4
  have tl : (∀ f0 f1 f2 f3 : Bool, fin t1 = f0 → fin t2 = f1 → fin t3 = f2 → fin t4 = f3 → True) := fun _ _ _ _ _ _ _ _ => trivial
  clear tl
  rcases Bool.eq_false_or_eq_true (fin t1) with f0 | f0
  rotate_left
  · have F0 := Lib.hid f0
    clear f0
    go_wp2_with (go_at_call 59; refine (c59 _ _ HX.out.1.1).mono ?_; rintro e w' ⟨rfl, rfl⟩; rw [F0.out])
    go_ret
    exact ⟨rfl, W7.out.o⟩
  have F0 := Lib.hid f0
  clear f0
  rcases Bool.eq_false_or_eq_true (fin t2) with f1 | f1
  rotate_left
  · have F1 := Lib.hid f1
    clear f1
    go_wp2_with (first | (go_at_call 59; refine (c59 t1 _ HX.out.1.1).mono ?_; rintro e w' ⟨rfl, rfl⟩; rw [F0.out]) | (go_at_call 59; refine (c59 t2 _ HX.out.2.1.1).mono ?_; rintro e w' ⟨rfl, rfl⟩; rw [F1.out]))
    go_ret
    exact ⟨rfl, W7.out.o⟩
  have F1 := Lib.hid f1
  clear f1
  rcases Bool.eq_false_or_eq_true (fin t3) with f2 | f2
  rotate_left
  · have F2 := Lib.hid f2
    clear f2
    go_wp2_with (first | (go_at_call 59; refine (c59 t1 _ HX.out.1.1).mono ?_; rintro e w' ⟨rfl, rfl⟩; rw [F0.out]) | (go_at_call 59; refine (c59 t2 _ HX.out.2.1.1).mono ?_; rintro e w' ⟨rfl, rfl⟩; rw [F1.out]) | (go_at_call 59; refine (c59 t3 _ HX.out.2.2.1.1).mono ?_; rintro e w' ⟨rfl, rfl⟩; rw [F2.out]))
    go_ret
    exact ⟨rfl, W7.out.o⟩
  have F2 := Lib.hid f2
  clear f2
  rcases Bool.eq_false_or_eq_true (fin t4) with f3 | f3
  rotate_left
  · have F3 := Lib.hid f3
    clear f3
    go_wp2_with (first | (go_at_call 59; refine (c59 t1 _ HX.out.1.1).mono ?_; rintro e w' ⟨rfl, rfl⟩; rw [F0.out]) | (go_at_call 59; refine (c59 t2 _ HX.out.2.1.1).mono ?_; rintro e w' ⟨rfl, rfl⟩; rw [F1.out]) | (go_at_call 59; refine (c59 t3 _ HX.out.2.2.1.1).mono ?_; rintro e w' ⟨rfl, rfl⟩; rw [F2.out]) | (go_at_call 59; refine (c59 t4 _ HX.out.2.2.2.1).mono ?_; rintro e w' ⟨rfl, rfl⟩; rw [F3.out]))
    go_ret
    exact ⟨rfl, W7.out.o⟩
  have F3 := Lib.hid f3
  clear f3
  have ones := Lib.hid (And.intro (uni_one t1 t3 HX.out.1 HX.out.2.2.1 F0.out F2.out) (uni_one t2 t4 HX.out.2.1 HX.out.2.2.2 F1.out F3.out))
  obtain ⟨y0, y1, y2, y3⟩ := cells4 W7.out.a.r
  go_upto_region 9 with (first | (go_at_call 59; refine (c59 t1 _ HX.out.1.1).mono ?_; rintro e w' ⟨rfl, rfl⟩; rw [F0.out]) | (go_at_call 59; refine (c59 t2 _ HX.out.2.1.1).mono ?_; rintro e w' ⟨rfl, rfl⟩; rw [F1.out]) | (go_at_call 59; refine (c59 t3 _ HX.out.2.2.1.1).mono ?_; rintro e w' ⟨rfl, rfl⟩; rw [F2.out]) | (go_at_call 59; refine (c59 t4 _ HX.out.2.2.2.1).mono ?_; rintro e w' ⟨rfl, rfl⟩; rw [F3.out]))
  clear F0 F1 F2 F3
  go_wp2_with fail
  refine (k55 HA.out.1 HA.out.2.1 HA.out.2.2.1 HA.out.2.2.2 HA.out.1 HA.out.2.1 HA.out.2.2.1 HA.out.2.2.2 _).mono ?_
  rintro e w8 ⟨⟨u0, u1, u2, u3, rfl, hu⟩, h8⟩
  have HU := Lib.hid hu
  have W8 := Lib.hid (And.intro ((W7.out.below h8).below (alloc_below w8 (.cells #[.float .f64 u0, .float .f64 u1, .float .f64 u2, .float .f64 u3] 58))) (kp_new w8 [.float .f64 u0, .float .f64 u1, .float .f64 u2, .float .f64 u3] 58))
  obtain ⟨s0, s1, s2, s3⟩ := store4n w8 58
  clear hu h8 W7 y0 y1 y2 y3
  go_upto_region 10 with fail
  refine wp_gen (fun wx => Hid (Duo wx w [.float .f64 a0, .float .f64 a1, .float .f64 a2, .float .f64 a3] [.float .f64 b0, .float .f64 b1, .float .f64 b2, .float .f64 b3] ∧ Kp wx w8.heap.size [.float .f64 u0, .float .f64 u1, .float .f64 u2, .float .f64 u3])) W8 ?_
  intro wg hW
  clear W8 s0 s1 s2 s3
  generalize w8.heap.size = g8 at *
  obtain ⟨y0, y1, y2, y3⟩ := cells4 hW.out.2.r
  go_wp2_with fail
  refine (k48 HU.out.1 HU.out.2.1 HU.out.2.2.1 HU.out.2.2.2 _).mono ?_
  rintro e w9 ⟨⟨v0, rfl, hv0⟩, h9⟩
  rw [ones.out.1] at hv0
  have HV := Lib.hid hv0
  have W9 := Lib.hid (And.intro (hW.out.1.below h9) (hW.out.2.below h9))
  clear hv0 h9 hW y0 y1 y2 y3
  obtain ⟨y0, y1, y2, y3⟩ := cells4 W9.out.2.r
  go_wp2_with fail
  refine (k32 HV.out HX.out.1 _).mono ?_
  rintro e w' ⟨rfl, rfl⟩
  go_wp2_with fail
  refine (k49 HU.out.1 HU.out.2.1 HU.out.2.2.1 HU.out.2.2.2 _).mono ?_
  rintro e w10 ⟨⟨v1, rfl, hv1⟩, h10⟩
  rw [ones.out.2] at hv1
  have HV1 := Lib.hid hv1
  have W10 := Lib.hid (W9.out.1.below h10)
  clear hv1 h10 W9 y0 y1 y2 y3
  go_wp2_with fail
  refine (k32 HV1.out HX.out.2.1 _).mono ?_
  rintro e w' ⟨rfl, rfl⟩
  go_wp2_with fail
  go_ret
  exact ⟨rfl, W10.out.o⟩
end Go.Proofs.Ytelalledjbeenaa
