/- Rectangles: galleyref15's Union and Meet, geom's Meet, both Has, SameRect: printed by geo3.py. SameRect, both Has, both Meet: printed by geo4.py. -/
import Derived.Test.YtelalledjbeenaaGeoC
namespace Go.Proofs.Ytelalledjbeenaa
open Go.RowKit Fl

theorem cells4 {w : World} {b : Nat} {v0 v1 v2 v3 : Value} (h : w.rangeAt b 0 [v0, v1, v2, v3]) : w.cell? ⟨b, 0, none⟩ = some v0 ∧ w.cell? ⟨b, 1, none⟩ = some v1 ∧ w.cell? ⟨b, 2, none⟩ = some v2 ∧ w.cell? ⟨b, 3, none⟩ = some v3 :=
  ⟨h 0 v0 rfl, by have := h 1 v1 rfl; rwa [Nat.zero_add] at this, by have := h 2 v2 rfl; rwa [Nat.zero_add] at this, by have := h 3 v3 rfl; rwa [Nat.zero_add] at this⟩
theorem two_below {wx wy w : World} {A B : List Value} {n : Nat} (h : Two wx w A B n) (hb : Below wx.heap.size wx wy) : Two wy w A B n :=
  ⟨range_below h.r1 hb (by have := h.lt; omega), range_below h.r2 hb (by have := h.lt; omega), there_below h.t hb h.lt, h.b.trans (hb.mono (by have := h.lt; omega)), Nat.lt_of_lt_of_le h.lt hb.size⟩
theorem store4n (w2 : World) (t : TypeId) :
    (∀ a b c d y, (store ⟨w2.heap.size, 0, none⟩ (.float .f64 y)).run Try.prog (w2.alloc (.cells #[.float .f64 a, .float .f64 b, .float .f64 c, .float .f64 d] t)) = .ok () ((w2.alloc (.cells #[.float .f64 a, .float .f64 b, .float .f64 c, .float .f64 d] t)).setCell ⟨w2.heap.size, 0, none⟩ (.float .f64 y))) ∧
    (∀ a b c d y, (store ⟨w2.heap.size, 1, none⟩ (.float .f64 y)).run Try.prog (w2.alloc (.cells #[.float .f64 a, .float .f64 b, .float .f64 c, .float .f64 d] t)) = .ok () ((w2.alloc (.cells #[.float .f64 a, .float .f64 b, .float .f64 c, .float .f64 d] t)).setCell ⟨w2.heap.size, 1, none⟩ (.float .f64 y))) ∧
    (∀ a b c d y, (store ⟨w2.heap.size, 2, none⟩ (.float .f64 y)).run Try.prog (w2.alloc (.cells #[.float .f64 a, .float .f64 b, .float .f64 c, .float .f64 d] t)) = .ok () ((w2.alloc (.cells #[.float .f64 a, .float .f64 b, .float .f64 c, .float .f64 d] t)).setCell ⟨w2.heap.size, 2, none⟩ (.float .f64 y))) ∧
    (∀ a b c d y, (store ⟨w2.heap.size, 3, none⟩ (.float .f64 y)).run Try.prog (w2.alloc (.cells #[.float .f64 a, .float .f64 b, .float .f64 c, .float .f64 d] t)) = .ok () ((w2.alloc (.cells #[.float .f64 a, .float .f64 b, .float .f64 c, .float .f64 d] t)).setCell ⟨w2.heap.size, 3, none⟩ (.float .f64 y))) :=
  ⟨fun a b c d y => store1 (there_new w2 _ t 4 rfl) (by decide) y, fun a b c d y => store1 (there_new w2 _ t 4 rfl) (by decide) y, fun a b c d y => store1 (there_new w2 _ t 4 rfl) (by decide) y, fun a b c d y => store1 (there_new w2 _ t 4 rfl) (by decide) y⟩
theorem alloc_below (w2 : World) (O : Obj) : Below w2.heap.size w2 (w2.alloc O) := (Below.refl _ _).alloc (Nat.le_refl _) O
theorem two_stored {w2 w : World} {A B : List Value} {n : Nat} (h : Two w2 w A B n) (x0 x1 x2 x3 : Nat) :
    Two (w2.alloc (.cells #[.float .f64 x0, .float .f64 x1, .float .f64 x2, .float .f64 x3] 61)) w A B n ∧
    (w2.alloc (.cells #[.float .f64 x0, .float .f64 x1, .float .f64 x2, .float .f64 x3] 61)).rangeAt w2.heap.size 0 [.float .f64 x0, .float .f64 x1, .float .f64 x2, .float .f64 x3] ∧
    w2.heap.size < (w2.alloc (.cells #[.float .f64 x0, .float .f64 x1, .float .f64 x2, .float .f64 x3] 61)).heap.size :=
  ⟨two_below h (alloc_below _ _), range_new w2 _ 61, by simp⟩
theorem two_stored2 {w2 w : World} {A B X : List Value} {n g : Nat} (h : Two w2 w A B n) (hr : w2.rangeAt g 0 X) (hg : g < w2.heap.size) (x0 x1 x2 x3 : Nat) :
    Two (w2.alloc (.cells #[.float .f64 x0, .float .f64 x1, .float .f64 x2, .float .f64 x3] 61)) w A B n ∧
    (w2.alloc (.cells #[.float .f64 x0, .float .f64 x1, .float .f64 x2, .float .f64 x3] 61)).rangeAt g 0 X ∧
    (w2.alloc (.cells #[.float .f64 x0, .float .f64 x1, .float .f64 x2, .float .f64 x3] 61)).rangeAt w2.heap.size 0 [.float .f64 x0, .float .f64 x1, .float .f64 x2, .float .f64 x3] ∧
    w2.heap.size < (w2.alloc (.cells #[.float .f64 x0, .float .f64 x1, .float .f64 x2, .float .f64 x3] 61)).heap.size :=
  ⟨(two_stored h x0 x1 x2 x3).1, range_below hr (alloc_below _ _) hg, (two_stored h x0 x1 x2 x3).2⟩

set_option maxRecDepth 100000 in
set_option maxHeartbeats 2000000 in
theorem k56 {a0 b0 a1 b1 a2 b2 a3 b3 : Nat} {A0 B0 A1 B1 A2 B2 A3 B3 : Int} (ha0 : RV a0 A0) (ha1 : RV a1 A1) (ha2 : RV a2 A2) (ha3 : RV a3 A3) (hb0 : RV b0 B0) (hb1 : RV b1 B1) (hb2 : RV b2 B2) (hb3 : RV b3 B3) (w : World) :
    Calls Try.prog 56 #[.agg #[.float .f64 a0, .float .f64 a1, .float .f64 a2, .float .f64 a3], .agg #[.float .f64 b0, .float .f64 b1, .float .f64 b2, .float .f64 b3]] w fun e w' => RetQ (minP (loP A0 A2) (loP B0 B2)) (minP (loP A1 A3) (loP B1 B3)) (opP .sub (maxP (hiP A0 A2) (hiP B0 B2)) (minP (loP A0 A2) (loP B0 B2))) (opP .sub (maxP (hiP A1 A3) (hiP B1 B3)) (minP (loP A1 A3) (loP B1 B3))) e ∧ Below w.heap.size w w' := by
  have HA := Lib.hid (And.intro ha0 (And.intro ha1 (And.intro ha2 ha3)))
  have HB := Lib.hid (And.intro hb0 (And.intro hb1 (And.intro hb2 hb3)))
  clear ha0 ha1 ha2 ha3 hb0 hb1 hb2 hb3
  go_enter Try.func56, Try.ntmps56
  go_wp2_with fail
  refine (k47 HA.out.1 HA.out.2.1 HA.out.2.2.1 HA.out.2.2.2 _).mono ?_
  rintro e w2 ⟨⟨x0, x1, x2, x3, rfl, hx⟩, hb⟩
  have E0 := two_entry w [.float .f64 a0, .float .f64 a1, .float .f64 a2, .float .f64 a3] [.float .f64 b0, .float .f64 b1, .float .f64 b2, .float .f64 b3] #[.float .f64 0, .float .f64 0, .float .f64 0, .float .f64 0] 58 58 58 4 rfl
  have W2 := Lib.hid (two_below E0 hb)
  have HX := Lib.hid hx
  obtain ⟨s0, s1, s2, s3⟩ := store4n w2 61
  clear hx hb E0
  go_upto_region 2 with fail
  refine wp_gen (fun wx => Hid (Two wx w [.float .f64 a0, .float .f64 a1, .float .f64 a2, .float .f64 a3] [.float .f64 b0, .float .f64 b1, .float .f64 b2, .float .f64 b3] 4 ∧ wx.rangeAt w2.heap.size 0 [.float .f64 x0, .float .f64 x1, .float .f64 x2, .float .f64 x3] ∧ w2.heap.size < wx.heap.size)) (Lib.hid (two_stored W2.out x0 x1 x2 x3)) ?_
  intro w3 hW
  have L2 := Lib.hid W2.out.lt
  clear W2 s0 s1 s2 s3
  generalize w2.heap.size = g1 at *
  obtain ⟨y0, y1, y2, y3⟩ := cells4 hW.out.1.r2
  go_wp2_with fail
  refine (k47 HB.out.1 HB.out.2.1 HB.out.2.2.1 HB.out.2.2.2 _).mono ?_
  rintro e w4 ⟨⟨z0, z1, z2, z3, rfl, hz⟩, hb⟩
  have W4 := Lib.hid (And.intro (two_below hW.out.1 hb) (range_below hW.out.2.1 hb hW.out.2.2))
  have HZ := Lib.hid hz
  have L4 := Lib.hid (Nat.lt_of_lt_of_le hW.out.2.2 hb.size)
  obtain ⟨s0, s1, s2, s3⟩ := store4n w4 61
  clear hz hb hW y0 y1 y2 y3
  go_upto_region 3 with fail
  refine wp_gen (fun wx => Hid (Two wx w [.float .f64 a0, .float .f64 a1, .float .f64 a2, .float .f64 a3] [.float .f64 b0, .float .f64 b1, .float .f64 b2, .float .f64 b3] 4 ∧ wx.rangeAt g1 0 [.float .f64 x0, .float .f64 x1, .float .f64 x2, .float .f64 x3] ∧ wx.rangeAt w4.heap.size 0 [.float .f64 z0, .float .f64 z1, .float .f64 z2, .float .f64 z3] ∧ w4.heap.size < wx.heap.size)) (Lib.hid (two_stored2 W4.out.1 W4.out.2 L4.out z0 z1 z2 z3)) ?_
  intro wc hW
  clear W4 s0 s1 s2 s3
  have L5 := Lib.hid L4.out
  clear L4
  generalize w4.heap.size = g2 at *
  have rx : ∀ w', Below wc.heap.size wc w' → w'.rangeAt g1 0 [.float .f64 x0, .float .f64 x1, .float .f64 x2, .float .f64 x3] := fun w' hw => range_below hW.out.2.1 hw (by have := hW.out.2.2.2; have := L5.out; omega)
  have rz : ∀ w', Below wc.heap.size wc w' → w'.rangeAt g2 0 [.float .f64 z0, .float .f64 z1, .float .f64 z2, .float .f64 z3] := fun w' hw => range_below hW.out.2.2.1 hw hW.out.2.2.2
  have RT := Lib.hid (fun w' (hw : Below wc.heap.size wc w') => there_below hW.out.1.t hw (by have := hW.out.1.lt; omega))
  have BW := Lib.hid hW.out.1.b
  have LW := Lib.hid hW.out.1.lt
  clear hW L2 L5
  refine wp_region_rel 21 (fun w' => Below wc.heap.size wc w') GEO (by kernel_rfl) (by kernel_rfl) ((Below.refl _ _).drew) ?_
  simp only [List.take_succ_cons, List.take_zero, List.drop_succ_cons, List.drop_zero]
  refine rel_val (v := .pointer (some ⟨g1, 0, none⟩)) rfl (fun w' hw => by go_simp) ?_
  simp only [Act.put, List.setIfInBounds_toArray, List.set_cons_succ, List.set_cons_zero]
  refine rel_loadF (g1) 0 x0 rfl rfl (fun w' hw => rx w' hw 0 _ rfl) ?_
  simp only [Act.put, List.setIfInBounds_toArray, List.set_cons_succ, List.set_cons_zero]
  refine rel_val (v := .pointer (some ⟨g2, 0, none⟩)) rfl (fun w' hw => by go_simp) ?_
  simp only [Act.put, List.setIfInBounds_toArray, List.set_cons_succ, List.set_cons_zero]
  refine rel_loadF (g2) 0 z0 rfl rfl (fun w' hw => rz w' hw 0 _ rfl) ?_
  simp only [Act.put, List.setIfInBounds_toArray, List.set_cons_succ, List.set_cons_zero]
  refine rel_call (f := 110) (args := #[.float .f64 x0, .float .f64 z0]) rfl (fun w' hw => by go_simp) (fun w' hw => g110 HX.out.1 HZ.out.1 hw) (fun v hv => ?_)
  obtain ⟨r1, rfl, hr1⟩ := G110 hv HX.out.1 HZ.out.1
  simp only [Act.put, List.setIfInBounds_toArray, List.set_cons_succ, List.set_cons_zero]
  refine rel_val (v := .pointer (some ⟨g1, 1, none⟩)) rfl (fun w' hw => by go_simp) ?_
  simp only [Act.put, List.setIfInBounds_toArray, List.set_cons_succ, List.set_cons_zero]
  refine rel_loadF (g1) 1 x1 rfl rfl (fun w' hw => rx w' hw 1 _ rfl) ?_
  simp only [Act.put, List.setIfInBounds_toArray, List.set_cons_succ, List.set_cons_zero]
  refine rel_val (v := .pointer (some ⟨g2, 1, none⟩)) rfl (fun w' hw => by go_simp) ?_
  simp only [Act.put, List.setIfInBounds_toArray, List.set_cons_succ, List.set_cons_zero]
  refine rel_loadF (g2) 1 z1 rfl rfl (fun w' hw => rz w' hw 1 _ rfl) ?_
  simp only [Act.put, List.setIfInBounds_toArray, List.set_cons_succ, List.set_cons_zero]
  refine rel_call (f := 110) (args := #[.float .f64 x1, .float .f64 z1]) rfl (fun w' hw => by go_simp) (fun w' hw => g110 HX.out.2.1 HZ.out.2.1 hw) (fun v hv => ?_)
  obtain ⟨r2, rfl, hr2⟩ := G110 hv HX.out.2.1 HZ.out.2.1
  simp only [Act.put, List.setIfInBounds_toArray, List.set_cons_succ, List.set_cons_zero]
  refine rel_val (v := .pointer (some ⟨g1, 2, none⟩)) rfl (fun w' hw => by go_simp) ?_
  simp only [Act.put, List.setIfInBounds_toArray, List.set_cons_succ, List.set_cons_zero]
  refine rel_loadF (g1) 2 x2 rfl rfl (fun w' hw => rx w' hw 2 _ rfl) ?_
  simp only [Act.put, List.setIfInBounds_toArray, List.set_cons_succ, List.set_cons_zero]
  refine rel_val (v := .pointer (some ⟨g2, 2, none⟩)) rfl (fun w' hw => by go_simp) ?_
  simp only [Act.put, List.setIfInBounds_toArray, List.set_cons_succ, List.set_cons_zero]
  refine rel_loadF (g2) 2 z2 rfl rfl (fun w' hw => rz w' hw 2 _ rfl) ?_
  simp only [Act.put, List.setIfInBounds_toArray, List.set_cons_succ, List.set_cons_zero]
  refine rel_call (f := 111) (args := #[.float .f64 x2, .float .f64 z2]) rfl (fun w' hw => by go_simp) (fun w' hw => g111 HX.out.2.2.1 HZ.out.2.2.1 hw) (fun v hv => ?_)
  obtain ⟨r3, rfl, hr3⟩ := G111 hv HX.out.2.2.1 HZ.out.2.2.1
  simp only [Act.put, List.setIfInBounds_toArray, List.set_cons_succ, List.set_cons_zero]
  refine rel_val (v := .pointer (some ⟨g1, 3, none⟩)) rfl (fun w' hw => by go_simp) ?_
  simp only [Act.put, List.setIfInBounds_toArray, List.set_cons_succ, List.set_cons_zero]
  refine rel_loadF (g1) 3 x3 rfl rfl (fun w' hw => rx w' hw 3 _ rfl) ?_
  simp only [Act.put, List.setIfInBounds_toArray, List.set_cons_succ, List.set_cons_zero]
  refine rel_val (v := .pointer (some ⟨g2, 3, none⟩)) rfl (fun w' hw => by go_simp) ?_
  simp only [Act.put, List.setIfInBounds_toArray, List.set_cons_succ, List.set_cons_zero]
  refine rel_loadF (g2) 3 z3 rfl rfl (fun w' hw => rz w' hw 3 _ rfl) ?_
  simp only [Act.put, List.setIfInBounds_toArray, List.set_cons_succ, List.set_cons_zero]
  refine rel_call (f := 111) (args := #[.float .f64 x3, .float .f64 z3]) rfl (fun w' hw => by go_simp) (fun w' hw => g111 HX.out.2.2.2 HZ.out.2.2.2 hw) (fun v hv => ?_)
  obtain ⟨r4, rfl, hr4⟩ := G111 hv HX.out.2.2.2 HZ.out.2.2.2
  simp only [Act.put, List.setIfInBounds_toArray, List.set_cons_succ, List.set_cons_zero]
  refine rel_call (f := 149) (args := #[.float .f64 r1, .float .f64 r2, .float .f64 r3, .float .f64 r4]) rfl (fun w' hw => by go_simp) (fun w' hw => g149 hr1 hr2 hr3 hr4 hw) (fun v hv => ?_)
  obtain ⟨r5, r6, r7, r8, rfl, hr5, hr6, hr7, hr8⟩ := G149 hv hr1 hr2 hr3 hr4
  simp only [Act.put, List.setIfInBounds_toArray, List.set_cons_succ, List.set_cons_zero]
  refine rel_nil ?_
  intro w5 hB5
  have RR := Lib.hid (And.intro hr5 (And.intro hr6 (And.intro hr7 hr8)))
  have B5 := Lib.hid (BW.out.trans (hB5.mono (by have := LW.out; omega)))
  obtain ⟨s0, s1, s2, s3⟩ := store4 (RT.out w5 hB5)
  have T5 := Lib.hid (RT.out w5 hB5)
  clear hB5 rx rz
  go_wp2
  refine bodyPost_ret (v := .agg #[_, _, _, _]) (ret_row Try.prog Try.results56 rfl [_, _, _, _] T5.out Try.underlying58 rfl size58) rfl ?_
  exact ⟨⟨_, _, _, _, rfl, RR.out⟩, below_setCells B5.out (by omega) 0 [_, _, _, _]⟩
end Go.Proofs.Ytelalledjbeenaa

namespace Go.Proofs.Ytelalledjbeenaa
open Go.RowKit Fl

set_option maxRecDepth 100000 in
set_option maxHeartbeats 2000000 in
theorem k54 {a0 b0 a1 b1 a2 b2 a3 b3 : Nat} {P0 P1 P2 P3 : Int} (ha0 : RV a0 P0) (hb0 : RV b0 P0) (ha1 : RV a1 P1) (hb1 : RV b1 P1) (ha2 : RV a2 P2) (hb2 : RV b2 P2) (ha3 : RV a3 P3) (hb3 : RV b3 P3) (w : World) :
    Calls Try.prog 54 #[.agg #[.float .f64 a0, .float .f64 a1, .float .f64 a2, .float .f64 a3], .agg #[.float .f64 b0, .float .f64 b1, .float .f64 b2, .float .f64 b3]] w fun e w' => e = .returned (.bool true) ∧ Below w.heap.size w w' := by
  have HA := Lib.hid (And.intro ha0 (And.intro ha1 (And.intro ha2 ha3)))
  have HB := Lib.hid (And.intro hb0 (And.intro hb1 (And.intro hb2 hb3)))
  clear ha0 ha1 ha2 ha3 hb0 hb1 hb2 hb3
  have BB := Lib.hid (((Below.refl w.heap.size w).alloc (Nat.le_refl _) (.cells #[.float .f64 a0, .float .f64 a1, .float .f64 a2, .float .f64 a3] 58)).alloc (by simp) (.cells #[.float .f64 b0, .float .f64 b1, .float .f64 b2, .float .f64 b3] 58))
  go_enter Try.func54, Try.ntmps54
  go_wp2_with fail
  refine (k32 HA.out.1 HB.out.1 _).mono ?_
  rintro e w' ⟨rfl, rfl⟩
  go_wp2_with fail
  refine (k32 HA.out.2.1 HB.out.2.1 _).mono ?_
  rintro e w' ⟨rfl, rfl⟩
  go_wp2_with fail
  refine (k32 HA.out.2.2.1 HB.out.2.2.1 _).mono ?_
  rintro e w' ⟨rfl, rfl⟩
  go_wp2_with fail
  refine (k32 HA.out.2.2.2 HB.out.2.2.2 _).mono ?_
  rintro e w' ⟨rfl, rfl⟩
  go_wp2
  go_ret
  exact ⟨rfl, BB.out⟩
/-- is a point in a rectangle? -/
def hasP (A0 A1 A2 A3 X Y : Int) : Bool := fleP (loP A0 A2) X && fltP X (hiP A0 A2) && fleP (loP A1 A3) Y && fltP Y (hiP A1 A3)
set_option maxRecDepth 100000 in
set_option maxHeartbeats 2000000 in
theorem k57 {a0 a1 a2 a3 x y : Nat} {A0 A1 A2 A3 X Y : Int} (ha0 : RV a0 A0) (ha1 : RV a1 A1) (ha2 : RV a2 A2) (ha3 : RV a3 A3) (hx : RV x X) (hy : RV y Y) (w : World) :
    Calls Try.prog 57 #[.agg #[.float .f64 a0, .float .f64 a1, .float .f64 a2, .float .f64 a3], .float .f64 x, .float .f64 y] w fun e w' => e = .returned (.bool (hasP A0 A1 A2 A3 X Y)) ∧ Below w.heap.size w w' := by
  have HA := Lib.hid (And.intro ha0 (And.intro ha1 (And.intro ha2 ha3)))
  have HX := Lib.hid (And.intro hx hy)
  clear ha0 ha1 ha2 ha3 hx hy
  have B0 := Lib.hid ((Below.refl w.heap.size w).alloc (Nat.le_refl _) (.cells #[.float .f64 a0, .float .f64 a1, .float .f64 a2, .float .f64 a3] 58))
  cases h0 : fleP (loP A0 A2) X
  · have K0 := Lib.hid h0
    clear h0
    have HH : Hid (hasP A0 A1 A2 A3 X Y = false) := Lib.hid (by unfold hasP; rw [K0.out]; simp)
    rw [HH.out]
    go_enter Try.func57, Try.ntmps57
    go_wp2_with fail
    refine (k48 HA.out.1 HA.out.2.1 HA.out.2.2.1 HA.out.2.2.2 _).mono ?_
    rintro e w1 ⟨⟨r0, rfl, hr⟩, hb⟩
    have HR0 := Lib.hid hr
    have B1 := Lib.hid (B0.out.trans (hb.mono B0.out.size))
    have ra : w1.rangeAt w.heap.size 0 [.float .f64 a0, .float .f64 a1, .float .f64 a2, .float .f64 a3] := range_below (range_new w [.float .f64 a0, .float .f64 a1, .float .f64 a2, .float .f64 a3] 58) hb (by simp)
    have RA1 := Lib.hid (And.intro ra (show w.heap.size < w1.heap.size by have := hb.size; simp at this; omega))
    have e0 := RV.le HR0.out HX.out.1
    rw [K0.out] at e0
    clear hr hb ra
    go_wp2
    go_ret
    exact ⟨rfl, B1.out⟩
  · have K0 := Lib.hid h0
    clear h0
    cases h1 : fltP X (hiP A0 A2)
    · have K1 := Lib.hid h1
      clear h1
      have HH : Hid (hasP A0 A1 A2 A3 X Y = false) := Lib.hid (by unfold hasP; rw [K0.out, K1.out]; simp)
      rw [HH.out]
      go_enter Try.func57, Try.ntmps57
      go_wp2_with fail
      refine (k48 HA.out.1 HA.out.2.1 HA.out.2.2.1 HA.out.2.2.2 _).mono ?_
      rintro e w1 ⟨⟨r0, rfl, hr⟩, hb⟩
      have HR0 := Lib.hid hr
      have B1 := Lib.hid (B0.out.trans (hb.mono B0.out.size))
      have ra : w1.rangeAt w.heap.size 0 [.float .f64 a0, .float .f64 a1, .float .f64 a2, .float .f64 a3] := range_below (range_new w [.float .f64 a0, .float .f64 a1, .float .f64 a2, .float .f64 a3] 58) hb (by simp)
      have RA1 := Lib.hid (And.intro ra (show w.heap.size < w1.heap.size by have := hb.size; simp at this; omega))
      have e0 := RV.le HR0.out HX.out.1
      rw [K0.out] at e0
      clear hr hb ra
      obtain ⟨q0, q1, q2, q3⟩ := cells4 RA1.out.1
      go_wp2_with fail
      refine (k50 HA.out.1 HA.out.2.1 HA.out.2.2.1 HA.out.2.2.2 _).mono ?_
      rintro e w2 ⟨⟨r1, rfl, hr⟩, hb⟩
      have HR1 := Lib.hid hr
      have B2 := Lib.hid (B1.out.trans (hb.mono B1.out.size))
      have RA2 := Lib.hid (And.intro (range_below RA1.out.1 hb RA1.out.2) (Nat.lt_of_lt_of_le RA1.out.2 hb.size))
      have e1 := RV.lt HX.out.1 HR1.out
      rw [K1.out] at e1
      clear hr hb
      clear q0 q1 q2 q3
      go_wp2
      go_ret
      exact ⟨rfl, B2.out⟩
    · have K1 := Lib.hid h1
      clear h1
      cases h2 : fleP (loP A1 A3) Y
      · have K2 := Lib.hid h2
        clear h2
        have HH : Hid (hasP A0 A1 A2 A3 X Y = false) := Lib.hid (by unfold hasP; rw [K0.out, K1.out, K2.out]; simp)
        rw [HH.out]
        go_enter Try.func57, Try.ntmps57
        go_wp2_with fail
        refine (k48 HA.out.1 HA.out.2.1 HA.out.2.2.1 HA.out.2.2.2 _).mono ?_
        rintro e w1 ⟨⟨r0, rfl, hr⟩, hb⟩
        have HR0 := Lib.hid hr
        have B1 := Lib.hid (B0.out.trans (hb.mono B0.out.size))
        have ra : w1.rangeAt w.heap.size 0 [.float .f64 a0, .float .f64 a1, .float .f64 a2, .float .f64 a3] := range_below (range_new w [.float .f64 a0, .float .f64 a1, .float .f64 a2, .float .f64 a3] 58) hb (by simp)
        have RA1 := Lib.hid (And.intro ra (show w.heap.size < w1.heap.size by have := hb.size; simp at this; omega))
        have e0 := RV.le HR0.out HX.out.1
        rw [K0.out] at e0
        clear hr hb ra
        obtain ⟨q0, q1, q2, q3⟩ := cells4 RA1.out.1
        go_wp2_with fail
        refine (k50 HA.out.1 HA.out.2.1 HA.out.2.2.1 HA.out.2.2.2 _).mono ?_
        rintro e w2 ⟨⟨r1, rfl, hr⟩, hb⟩
        have HR1 := Lib.hid hr
        have B2 := Lib.hid (B1.out.trans (hb.mono B1.out.size))
        have RA2 := Lib.hid (And.intro (range_below RA1.out.1 hb RA1.out.2) (Nat.lt_of_lt_of_le RA1.out.2 hb.size))
        have e1 := RV.lt HX.out.1 HR1.out
        rw [K1.out] at e1
        clear hr hb
        clear q0 q1 q2 q3
        obtain ⟨q0, q1, q2, q3⟩ := cells4 RA2.out.1
        go_wp2_with fail
        refine (k49 HA.out.1 HA.out.2.1 HA.out.2.2.1 HA.out.2.2.2 _).mono ?_
        rintro e w3 ⟨⟨r2, rfl, hr⟩, hb⟩
        have HR2 := Lib.hid hr
        have B3 := Lib.hid (B2.out.trans (hb.mono B2.out.size))
        have RA3 := Lib.hid (And.intro (range_below RA2.out.1 hb RA2.out.2) (Nat.lt_of_lt_of_le RA2.out.2 hb.size))
        have e2 := RV.le HR2.out HX.out.2
        rw [K2.out] at e2
        clear hr hb
        clear q0 q1 q2 q3
        go_wp2
        go_ret
        exact ⟨rfl, B3.out⟩
      · have K2 := Lib.hid h2
        clear h2
        cases h3 : fltP Y (hiP A1 A3)
        · have K3 := Lib.hid h3
          clear h3
          have HH : Hid (hasP A0 A1 A2 A3 X Y = false) := Lib.hid (by unfold hasP; rw [K0.out, K1.out, K2.out, K3.out]; simp)
          rw [HH.out]
          go_enter Try.func57, Try.ntmps57
          go_wp2_with fail
          refine (k48 HA.out.1 HA.out.2.1 HA.out.2.2.1 HA.out.2.2.2 _).mono ?_
          rintro e w1 ⟨⟨r0, rfl, hr⟩, hb⟩
          have HR0 := Lib.hid hr
          have B1 := Lib.hid (B0.out.trans (hb.mono B0.out.size))
          have ra : w1.rangeAt w.heap.size 0 [.float .f64 a0, .float .f64 a1, .float .f64 a2, .float .f64 a3] := range_below (range_new w [.float .f64 a0, .float .f64 a1, .float .f64 a2, .float .f64 a3] 58) hb (by simp)
          have RA1 := Lib.hid (And.intro ra (show w.heap.size < w1.heap.size by have := hb.size; simp at this; omega))
          have e0 := RV.le HR0.out HX.out.1
          rw [K0.out] at e0
          clear hr hb ra
          obtain ⟨q0, q1, q2, q3⟩ := cells4 RA1.out.1
          go_wp2_with fail
          refine (k50 HA.out.1 HA.out.2.1 HA.out.2.2.1 HA.out.2.2.2 _).mono ?_
          rintro e w2 ⟨⟨r1, rfl, hr⟩, hb⟩
          have HR1 := Lib.hid hr
          have B2 := Lib.hid (B1.out.trans (hb.mono B1.out.size))
          have RA2 := Lib.hid (And.intro (range_below RA1.out.1 hb RA1.out.2) (Nat.lt_of_lt_of_le RA1.out.2 hb.size))
          have e1 := RV.lt HX.out.1 HR1.out
          rw [K1.out] at e1
          clear hr hb
          clear q0 q1 q2 q3
          obtain ⟨q0, q1, q2, q3⟩ := cells4 RA2.out.1
          go_wp2_with fail
          refine (k49 HA.out.1 HA.out.2.1 HA.out.2.2.1 HA.out.2.2.2 _).mono ?_
          rintro e w3 ⟨⟨r2, rfl, hr⟩, hb⟩
          have HR2 := Lib.hid hr
          have B3 := Lib.hid (B2.out.trans (hb.mono B2.out.size))
          have RA3 := Lib.hid (And.intro (range_below RA2.out.1 hb RA2.out.2) (Nat.lt_of_lt_of_le RA2.out.2 hb.size))
          have e2 := RV.le HR2.out HX.out.2
          rw [K2.out] at e2
          clear hr hb
          clear q0 q1 q2 q3
          obtain ⟨q0, q1, q2, q3⟩ := cells4 RA3.out.1
          go_wp2_with fail
          refine (k51 HA.out.1 HA.out.2.1 HA.out.2.2.1 HA.out.2.2.2 _).mono ?_
          rintro e w4 ⟨⟨r3, rfl, hr⟩, hb⟩
          have HR3 := Lib.hid hr
          have B4 := Lib.hid (B3.out.trans (hb.mono B3.out.size))
          have RA4 := Lib.hid (And.intro (range_below RA3.out.1 hb RA3.out.2) (Nat.lt_of_lt_of_le RA3.out.2 hb.size))
          have e3 := RV.lt HX.out.2 HR3.out
          rw [K3.out] at e3
          clear hr hb
          clear q0 q1 q2 q3
          go_wp2
          go_ret
          exact ⟨rfl, B4.out⟩
        · have K3 := Lib.hid h3
          clear h3
          have HH : Hid (hasP A0 A1 A2 A3 X Y = true) := Lib.hid (by unfold hasP; rw [K0.out, K1.out, K2.out, K3.out]; simp)
          rw [HH.out]
          go_enter Try.func57, Try.ntmps57
          go_wp2_with fail
          refine (k48 HA.out.1 HA.out.2.1 HA.out.2.2.1 HA.out.2.2.2 _).mono ?_
          rintro e w1 ⟨⟨r0, rfl, hr⟩, hb⟩
          have HR0 := Lib.hid hr
          have B1 := Lib.hid (B0.out.trans (hb.mono B0.out.size))
          have ra : w1.rangeAt w.heap.size 0 [.float .f64 a0, .float .f64 a1, .float .f64 a2, .float .f64 a3] := range_below (range_new w [.float .f64 a0, .float .f64 a1, .float .f64 a2, .float .f64 a3] 58) hb (by simp)
          have RA1 := Lib.hid (And.intro ra (show w.heap.size < w1.heap.size by have := hb.size; simp at this; omega))
          have e0 := RV.le HR0.out HX.out.1
          rw [K0.out] at e0
          clear hr hb ra
          obtain ⟨q0, q1, q2, q3⟩ := cells4 RA1.out.1
          go_wp2_with fail
          refine (k50 HA.out.1 HA.out.2.1 HA.out.2.2.1 HA.out.2.2.2 _).mono ?_
          rintro e w2 ⟨⟨r1, rfl, hr⟩, hb⟩
          have HR1 := Lib.hid hr
          have B2 := Lib.hid (B1.out.trans (hb.mono B1.out.size))
          have RA2 := Lib.hid (And.intro (range_below RA1.out.1 hb RA1.out.2) (Nat.lt_of_lt_of_le RA1.out.2 hb.size))
          have e1 := RV.lt HX.out.1 HR1.out
          rw [K1.out] at e1
          clear hr hb
          clear q0 q1 q2 q3
          obtain ⟨q0, q1, q2, q3⟩ := cells4 RA2.out.1
          go_wp2_with fail
          refine (k49 HA.out.1 HA.out.2.1 HA.out.2.2.1 HA.out.2.2.2 _).mono ?_
          rintro e w3 ⟨⟨r2, rfl, hr⟩, hb⟩
          have HR2 := Lib.hid hr
          have B3 := Lib.hid (B2.out.trans (hb.mono B2.out.size))
          have RA3 := Lib.hid (And.intro (range_below RA2.out.1 hb RA2.out.2) (Nat.lt_of_lt_of_le RA2.out.2 hb.size))
          have e2 := RV.le HR2.out HX.out.2
          rw [K2.out] at e2
          clear hr hb
          clear q0 q1 q2 q3
          obtain ⟨q0, q1, q2, q3⟩ := cells4 RA3.out.1
          go_wp2_with fail
          refine (k51 HA.out.1 HA.out.2.1 HA.out.2.2.1 HA.out.2.2.2 _).mono ?_
          rintro e w4 ⟨⟨r3, rfl, hr⟩, hb⟩
          have HR3 := Lib.hid hr
          have B4 := Lib.hid (B3.out.trans (hb.mono B3.out.size))
          have RA4 := Lib.hid (And.intro (range_below RA3.out.1 hb RA3.out.2) (Nat.lt_of_lt_of_le RA3.out.2 hb.size))
          have e3 := RV.lt HX.out.2 HR3.out
          rw [K3.out] at e3
          clear hr hb
          clear q0 q1 q2 q3
          go_wp2
          go_ret
          exact ⟨rfl, B4.out⟩
set_option maxRecDepth 100000 in
set_option maxHeartbeats 2000000 in
theorem k58 {a0 a1 a2 a3 x y : Nat} {A0 A1 A2 A3 X Y : Int} (ha0 : RV a0 A0) (ha1 : RV a1 A1) (ha2 : RV a2 A2) (ha3 : RV a3 A3) (hx : RV x X) (hy : RV y Y) (w : World) :
    Calls Try.prog 58 #[.agg #[.float .f64 a0, .float .f64 a1, .float .f64 a2, .float .f64 a3], .float .f64 x, .float .f64 y] w fun e w' => e = .returned (.bool (hasP A0 A1 A2 A3 X Y)) ∧ Below w.heap.size w w' := by
  have HA := Lib.hid (And.intro ha0 (And.intro ha1 (And.intro ha2 ha3)))
  have HX := Lib.hid (And.intro hx hy)
  clear ha0 ha1 ha2 ha3 hx hy
  have B0 := Lib.hid ((Below.refl w.heap.size w).alloc (Nat.le_refl _) (.cells #[.float .f64 a0, .float .f64 a1, .float .f64 a2, .float .f64 a3] 58))
  go_enter Try.func58, Try.ntmps58
  go_wp2_with fail
  refine (k47 HA.out.1 HA.out.2.1 HA.out.2.2.1 HA.out.2.2.2 _).mono ?_
  rintro e w2 ⟨⟨x0, x1, x2, x3, rfl, hz⟩, hb⟩
  have HZ := Lib.hid hz
  have B2 := Lib.hid (B0.out.trans (hb.mono B0.out.size))
  have B3 := Lib.hid (B2.out.alloc B2.out.size (.cells #[.float .f64 x0, .float .f64 x1, .float .f64 x2, .float .f64 x3] 61))
  obtain ⟨s0, s1, s2, s3⟩ := store4n w2 61
  clear hz hb
  have e0 := RV.le HZ.out.1 HX.out.1
  cases h0 : fleP (loP A0 A2) X
  · rw [h0] at e0
    have K0 := Lib.hid h0
    clear h0
    have HH : Hid (hasP A0 A1 A2 A3 X Y = false) := Lib.hid (by unfold hasP; rw [K0.out]; simp)
    go_wp2
    go_ret
    exact ⟨ret_bool HH.out.symm, B3.out⟩
  · rw [h0] at e0
    have K0 := Lib.hid h0
    clear h0
    have e1 := RV.lt HX.out.1 HZ.out.2.2.1
    cases h1 : fltP X (hiP A0 A2)
    · rw [h1] at e1
      have K1 := Lib.hid h1
      clear h1
      have HH : Hid (hasP A0 A1 A2 A3 X Y = false) := Lib.hid (by unfold hasP; rw [K0.out, K1.out]; simp)
      go_wp2
      go_ret
      exact ⟨ret_bool HH.out.symm, B3.out⟩
    · rw [h1] at e1
      have K1 := Lib.hid h1
      clear h1
      have e2 := RV.le HZ.out.2.1 HX.out.2
      cases h2 : fleP (loP A1 A3) Y
      · rw [h2] at e2
        have K2 := Lib.hid h2
        clear h2
        have HH : Hid (hasP A0 A1 A2 A3 X Y = false) := Lib.hid (by unfold hasP; rw [K0.out, K1.out, K2.out]; simp)
        go_wp2
        go_ret
        exact ⟨ret_bool HH.out.symm, B3.out⟩
      · rw [h2] at e2
        have K2 := Lib.hid h2
        clear h2
        have e3 := RV.lt HX.out.2 HZ.out.2.2.2
        cases h3 : fltP Y (hiP A1 A3)
        · rw [h3] at e3
          have K3 := Lib.hid h3
          clear h3
          have HH : Hid (hasP A0 A1 A2 A3 X Y = false) := Lib.hid (by unfold hasP; rw [K0.out, K1.out, K2.out, K3.out]; simp)
          go_wp2
          go_ret
          exact ⟨ret_bool HH.out.symm, B3.out⟩
        · rw [h3] at e3
          have K3 := Lib.hid h3
          clear h3
          have HH : Hid (hasP A0 A1 A2 A3 X Y = true) := Lib.hid (by unfold hasP; rw [K0.out, K1.out, K2.out, K3.out]; simp)
          go_wp2
          go_ret
          exact ⟨ret_bool HH.out.symm, B3.out⟩
end Go.Proofs.Ytelalledjbeenaa
