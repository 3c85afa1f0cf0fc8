/- SameRect, both Has, both Meet: printed by geo4.py. -/
import Derived.Test.YtelalledjbeenaaGeoD
namespace Go.Proofs.Ytelalledjbeenaa
open Go.RowKit Fl

set_option maxRecDepth 100000 in
set_option maxHeartbeats 2000000 in
theorem k54 {a0 b0 a1 b1 a2 b2 a3 b3 : Nat} {P0 P1 P2 P3 : Int} (ha0 : RV a0 P0) (hb0 : RV b0 P0) (ha1 : RV a1 P1) (hb1 : RV b1 P1) (ha2 : RV a2 P2) (hb2 : RV b2 P2) (ha3 : RV a3 P3) (hb3 : RV b3 P3) (w : World) :
    Calls Try.prog 54 #[.agg #[.float .f64 a0, .float .f64 a1, .float .f64 a2, .float .f64 a3], .agg #[.float .f64 b0, .float .f64 b1, .float .f64 b2, .float .f64 b3]] w fun e w' => e = .returned (.bool true) ∧ Below w.heap.size w w' := by
  have HA := Lib.hid (And.intro ha0 (And.intro ha1 (And.intro ha2 ha3)))
  have HB := Lib.hid (And.intro hb0 (And.intro hb1 (And.intro hb2 hb3)))
  clear ha0 ha1 ha2 ha3 hb0 hb1 hb2 hb3
  have BB := Lib.hid (((Below.refl w.heap.size w).alloc (Nat.le_refl _) (.cells #[.float .f64 a0, .float .f64 a1, .float .f64 a2, .float .f64 a3] 58)).alloc (by simp) (.cells #[.float .f64 b0, .float .f64 b1, .float .f64 b2, .float .f64 b3] 58))
  go_enter Try.func54, Try.ntmps54
  go_wp2_with fail
  refine (k32 HA.out.1 HB.out.1 _).mono ?_
  rintro e w' ⟨rfl, rfl⟩
  go_wp2_with fail
  refine (k32 HA.out.2.1 HB.out.2.1 _).mono ?_
  rintro e w' ⟨rfl, rfl⟩
  go_wp2_with fail
  refine (k32 HA.out.2.2.1 HB.out.2.2.1 _).mono ?_
  rintro e w' ⟨rfl, rfl⟩
  go_wp2_with fail
  refine (k32 HA.out.2.2.2 HB.out.2.2.2 _).mono ?_
  rintro e w' ⟨rfl, rfl⟩
  go_wp2
  go_ret
  exact ⟨rfl, BB.out⟩
/-- is a point in a rectangle? -/
def hasP (A0 A1 A2 A3 X Y : Int) : Bool := fleP (loP A0 A2) X && fltP X (hiP A0 A2) && fleP (loP A1 A3) Y && fltP Y (hiP A1 A3)
set_option maxRecDepth 100000 in
set_option maxHeartbeats 2000000 in
theorem k57 {a0 a1 a2 a3 x y : Nat} {A0 A1 A2 A3 X Y : Int} (ha0 : RV a0 A0) (ha1 : RV a1 A1) (ha2 : RV a2 A2) (ha3 : RV a3 A3) (hx : RV x X) (hy : RV y Y) (w : World) :
    Calls Try.prog 57 #[.agg #[.float .f64 a0, .float .f64 a1, .float .f64 a2, .float .f64 a3], .float .f64 x, .float .f64 y] w fun e w' => e = .returned (.bool (hasP A0 A1 A2 A3 X Y)) ∧ Below w.heap.size w w' := by
  have HA := Lib.hid (And.intro ha0 (And.intro ha1 (And.intro ha2 ha3)))
  have HX := Lib.hid (And.intro hx hy)
  clear ha0 ha1 ha2 ha3 hx hy
  have B0 := Lib.hid ((Below.refl w.heap.size w).alloc (Nat.le_refl _) (.cells #[.float .f64 a0, .float .f64 a1, .float .f64 a2, .float .f64 a3] 58))
  cases h0 : fleP (loP A0 A2) X
  · have K0 := Lib.hid h0
    clear h0
    have HH : Hid (hasP A0 A1 A2 A3 X Y = false) := Lib.hid (by unfold hasP; rw [K0.out]; simp)
    rw [HH.out]
    go_enter Try.func57, Try.ntmps57
    go_wp2_with fail
    refine (k48 HA.out.1 HA.out.2.1 HA.out.2.2.1 HA.out.2.2.2 _).mono ?_
    rintro e w1 ⟨⟨r0, rfl, hr⟩, hb⟩
    have HR0 := Lib.hid hr
    have B1 := Lib.hid (B0.out.trans (hb.mono B0.out.size))
    have ra : w1.rangeAt w.heap.size 0 [.float .f64 a0, .float .f64 a1, .float .f64 a2, .float .f64 a3] := range_below (range_new w [.float .f64 a0, .float .f64 a1, .float .f64 a2, .float .f64 a3] 58) hb (by simp)
    have RA1 := Lib.hid (And.intro ra (show w.heap.size < w1.heap.size by have := hb.size; simp at this; omega))
    have e0 := RV.le HR0.out HX.out.1
    rw [K0.out] at e0
    clear hr hb ra
    go_wp2
    go_ret
    exact ⟨rfl, B1.out⟩
  · have K0 := Lib.hid h0
    clear h0
    cases h1 : fltP X (hiP A0 A2)
    · have K1 := Lib.hid h1
      clear h1
      have HH : Hid (hasP A0 A1 A2 A3 X Y = false) := Lib.hid (by unfold hasP; rw [K0.out, K1.out]; simp)
      rw [HH.out]
      go_enter Try.func57, Try.ntmps57
      go_wp2_with fail
      refine (k48 HA.out.1 HA.out.2.1 HA.out.2.2.1 HA.out.2.2.2 _).mono ?_
      rintro e w1 ⟨⟨r0, rfl, hr⟩, hb⟩
      have HR0 := Lib.hid hr
      have B1 := Lib.hid (B0.out.trans (hb.mono B0.out.size))
      have ra : w1.rangeAt w.heap.size 0 [.float .f64 a0, .float .f64 a1, .float .f64 a2, .float .f64 a3] := range_below (range_new w [.float .f64 a0, .float .f64 a1, .float .f64 a2, .float .f64 a3] 58) hb (by simp)
      have RA1 := Lib.hid (And.intro ra (show w.heap.size < w1.heap.size by have := hb.size; simp at this; omega))
      have e0 := RV.le HR0.out HX.out.1
      rw [K0.out] at e0
      clear hr hb ra
      obtain ⟨q0, q1, q2, q3⟩ := cells4 RA1.out.1
      go_wp2_with fail
      refine (k50 HA.out.1 HA.out.2.1 HA.out.2.2.1 HA.out.2.2.2 _).mono ?_
      rintro e w2 ⟨⟨r1, rfl, hr⟩, hb⟩
      have HR1 := Lib.hid hr
      have B2 := Lib.hid (B1.out.trans (hb.mono B1.out.size))
      have RA2 := Lib.hid (And.intro (range_below RA1.out.1 hb RA1.out.2) (Nat.lt_of_lt_of_le RA1.out.2 hb.size))
      have e1 := RV.lt HX.out.1 HR1.out
      rw [K1.out] at e1
      clear hr hb
      clear q0 q1 q2 q3
      go_wp2
      go_ret
      exact ⟨rfl, B2.out⟩
    · have K1 := Lib.hid h1
      clear h1
      cases h2 : fleP (loP A1 A3) Y
      · have K2 := Lib.hid h2
        clear h2
        have HH : Hid (hasP A0 A1 A2 A3 X Y = false) := Lib.hid (by unfold hasP; rw [K0.out, K1.out, K2.out]; simp)
        rw [HH.out]
        go_enter Try.func57, Try.ntmps57
        go_wp2_with fail
        refine (k48 HA.out.1 HA.out.2.1 HA.out.2.2.1 HA.out.2.2.2 _).mono ?_
        rintro e w1 ⟨⟨r0, rfl, hr⟩, hb⟩
        have HR0 := Lib.hid hr
        have B1 := Lib.hid (B0.out.trans (hb.mono B0.out.size))
        have ra : w1.rangeAt w.heap.size 0 [.float .f64 a0, .float .f64 a1, .float .f64 a2, .float .f64 a3] := range_below (range_new w [.float .f64 a0, .float .f64 a1, .float .f64 a2, .float .f64 a3] 58) hb (by simp)
        have RA1 := Lib.hid (And.intro ra (show w.heap.size < w1.heap.size by have := hb.size; simp at this; omega))
        have e0 := RV.le HR0.out HX.out.1
        rw [K0.out] at e0
        clear hr hb ra
        obtain ⟨q0, q1, q2, q3⟩ := cells4 RA1.out.1
        go_wp2_with fail
        refine (k50 HA.out.1 HA.out.2.1 HA.out.2.2.1 HA.out.2.2.2 _).mono ?_
        rintro e w2 ⟨⟨r1, rfl, hr⟩, hb⟩
        have HR1 := Lib.hid hr
        have B2 := Lib.hid (B1.out.trans (hb.mono B1.out.size))
        have RA2 := Lib.hid (And.intro (range_below RA1.out.1 hb RA1.out.2) (Nat.lt_of_lt_of_le RA1.out.2 hb.size))
        have e1 := RV.lt HX.out.1 HR1.out
        rw [K1.out] at e1
        clear hr hb
        clear q0 q1 q2 q3
        obtain ⟨q0, q1, q2, q3⟩ := cells4 RA2.out.1
        go_wp2_with fail
        refine (k49 HA.out.1 HA.out.2.1 HA.out.2.2.1 HA.out.2.2.2 _).mono ?_
        rintro e w3 ⟨⟨r2, rfl, hr⟩, hb⟩
        have HR2 := Lib.hid hr
        have B3 := Lib.hid (B2.out.trans (hb.mono B2.out.size))
        have RA3 := Lib.hid (And.intro (range_below RA2.out.1 hb RA2.out.2) (Nat.lt_of_lt_of_le RA2.out.2 hb.size))
        have e2 := RV.le HR2.out HX.out.2
        rw [K2.out] at e2
        clear hr hb
        clear q0 q1 q2 q3
        go_wp2
        go_ret
        exact ⟨rfl, B3.out⟩
      · have K2 := Lib.hid h2
        clear h2
        cases h3 : fltP Y (hiP A1 A3)
        · have K3 := Lib.hid h3
          clear h3
          have HH : Hid (hasP A0 A1 A2 A3 X Y = false) := Lib.hid (by unfold hasP; rw [K0.out, K1.out, K2.out, K3.out]; simp)
          rw [HH.out]
          go_enter Try.func57, Try.ntmps57
          go_wp2_with fail
          refine (k48 HA.out.1 HA.out.2.1 HA.out.2.2.1 HA.out.2.2.2 _).mono ?_
          rintro e w1 ⟨⟨r0, rfl, hr⟩, hb⟩
          have HR0 := Lib.hid hr
          have B1 := Lib.hid (B0.out.trans (hb.mono B0.out.size))
          have ra : w1.rangeAt w.heap.size 0 [.float .f64 a0, .float .f64 a1, .float .f64 a2, .float .f64 a3] := range_below (range_new w [.float .f64 a0, .float .f64 a1, .float .f64 a2, .float .f64 a3] 58) hb (by simp)
          have RA1 := Lib.hid (And.intro ra (show w.heap.size < w1.heap.size by have := hb.size; simp at this; omega))
          have e0 := RV.le HR0.out HX.out.1
          rw [K0.out] at e0
          clear hr hb ra
          obtain ⟨q0, q1, q2, q3⟩ := cells4 RA1.out.1
          go_wp2_with fail
          refine (k50 HA.out.1 HA.out.2.1 HA.out.2.2.1 HA.out.2.2.2 _).mono ?_
          rintro e w2 ⟨⟨r1, rfl, hr⟩, hb⟩
          have HR1 := Lib.hid hr
          have B2 := Lib.hid (B1.out.trans (hb.mono B1.out.size))
          have RA2 := Lib.hid (And.intro (range_below RA1.out.1 hb RA1.out.2) (Nat.lt_of_lt_of_le RA1.out.2 hb.size))
          have e1 := RV.lt HX.out.1 HR1.out
          rw [K1.out] at e1
          clear hr hb
          clear q0 q1 q2 q3
          obtain ⟨q0, q1, q2, q3⟩ := cells4 RA2.out.1
          go_wp2_with fail
          refine (k49 HA.out.1 HA.out.2.1 HA.out.2.2.1 HA.out.2.2.2 _).mono ?_
          rintro e w3 ⟨⟨r2, rfl, hr⟩, hb⟩
          have HR2 := Lib.hid hr
          have B3 := Lib.hid (B2.out.trans (hb.mono B2.out.size))
          have RA3 := Lib.hid (And.intro (range_below RA2.out.1 hb RA2.out.2) (Nat.lt_of_lt_of_le RA2.out.2 hb.size))
          have e2 := RV.le HR2.out HX.out.2
          rw [K2.out] at e2
          clear hr hb
          clear q0 q1 q2 q3
          obtain ⟨q0, q1, q2, q3⟩ := cells4 RA3.out.1
          go_wp2_with fail
          refine (k51 HA.out.1 HA.out.2.1 HA.out.2.2.1 HA.out.2.2.2 _).mono ?_
          rintro e w4 ⟨⟨r3, rfl, hr⟩, hb⟩
          have HR3 := Lib.hid hr
          have B4 := Lib.hid (B3.out.trans (hb.mono B3.out.size))
          have RA4 := Lib.hid (And.intro (range_below RA3.out.1 hb RA3.out.2) (Nat.lt_of_lt_of_le RA3.out.2 hb.size))
          have e3 := RV.lt HX.out.2 HR3.out
          rw [K3.out] at e3
          clear hr hb
          clear q0 q1 q2 q3
          go_wp2
          go_ret
          exact ⟨rfl, B4.out⟩
        · have K3 := Lib.hid h3
          clear h3
          have HH : Hid (hasP A0 A1 A2 A3 X Y = true) := Lib.hid (by unfold hasP; rw [K0.out, K1.out, K2.out, K3.out]; simp)
          rw [HH.out]
          go_enter Try.func57, Try.ntmps57
          go_wp2_with fail
          refine (k48 HA.out.1 HA.out.2.1 HA.out.2.2.1 HA.out.2.2.2 _).mono ?_
          rintro e w1 ⟨⟨r0, rfl, hr⟩, hb⟩
          have HR0 := Lib.hid hr
          have B1 := Lib.hid (B0.out.trans (hb.mono B0.out.size))
          have ra : w1.rangeAt w.heap.size 0 [.float .f64 a0, .float .f64 a1, .float .f64 a2, .float .f64 a3] := range_below (range_new w [.float .f64 a0, .float .f64 a1, .float .f64 a2, .float .f64 a3] 58) hb (by simp)
          have RA1 := Lib.hid (And.intro ra (show w.heap.size < w1.heap.size by have := hb.size; simp at this; omega))
          have e0 := RV.le HR0.out HX.out.1
          rw [K0.out] at e0
          clear hr hb ra
          obtain ⟨q0, q1, q2, q3⟩ := cells4 RA1.out.1
          go_wp2_with fail
          refine (k50 HA.out.1 HA.out.2.1 HA.out.2.2.1 HA.out.2.2.2 _).mono ?_
          rintro e w2 ⟨⟨r1, rfl, hr⟩, hb⟩
          have HR1 := Lib.hid hr
          have B2 := Lib.hid (B1.out.trans (hb.mono B1.out.size))
          have RA2 := Lib.hid (And.intro (range_below RA1.out.1 hb RA1.out.2) (Nat.lt_of_lt_of_le RA1.out.2 hb.size))
          have e1 := RV.lt HX.out.1 HR1.out
          rw [K1.out] at e1
          clear hr hb
          clear q0 q1 q2 q3
          obtain ⟨q0, q1, q2, q3⟩ := cells4 RA2.out.1
          go_wp2_with fail
          refine (k49 HA.out.1 HA.out.2.1 HA.out.2.2.1 HA.out.2.2.2 _).mono ?_
          rintro e w3 ⟨⟨r2, rfl, hr⟩, hb⟩
          have HR2 := Lib.hid hr
          have B3 := Lib.hid (B2.out.trans (hb.mono B2.out.size))
          have RA3 := Lib.hid (And.intro (range_below RA2.out.1 hb RA2.out.2) (Nat.lt_of_lt_of_le RA2.out.2 hb.size))
          have e2 := RV.le HR2.out HX.out.2
          rw [K2.out] at e2
          clear hr hb
          clear q0 q1 q2 q3
          obtain ⟨q0, q1, q2, q3⟩ := cells4 RA3.out.1
          go_wp2_with fail
          refine (k51 HA.out.1 HA.out.2.1 HA.out.2.2.1 HA.out.2.2.2 _).mono ?_
          rintro e w4 ⟨⟨r3, rfl, hr⟩, hb⟩
          have HR3 := Lib.hid hr
          have B4 := Lib.hid (B3.out.trans (hb.mono B3.out.size))
          have RA4 := Lib.hid (And.intro (range_below RA3.out.1 hb RA3.out.2) (Nat.lt_of_lt_of_le RA3.out.2 hb.size))
          have e3 := RV.lt HX.out.2 HR3.out
          rw [K3.out] at e3
          clear hr hb
          clear q0 q1 q2 q3
          go_wp2
          go_ret
          exact ⟨rfl, B4.out⟩
set_option maxRecDepth 100000 in
set_option maxHeartbeats 2000000 in
theorem k58 {a0 a1 a2 a3 x y : Nat} {A0 A1 A2 A3 X Y : Int} (ha0 : RV a0 A0) (ha1 : RV a1 A1) (ha2 : RV a2 A2) (ha3 : RV a3 A3) (hx : RV x X) (hy : RV y Y) (w : World) :
    Calls Try.prog 58 #[.agg #[.float .f64 a0, .float .f64 a1, .float .f64 a2, .float .f64 a3], .float .f64 x, .float .f64 y] w fun e w' => e = .returned (.bool (hasP A0 A1 A2 A3 X Y)) ∧ Below w.heap.size w w' := by
  have HA := Lib.hid (And.intro ha0 (And.intro ha1 (And.intro ha2 ha3)))
  have HX := Lib.hid (And.intro hx hy)
  clear ha0 ha1 ha2 ha3 hx hy
  have B0 := Lib.hid ((Below.refl w.heap.size w).alloc (Nat.le_refl _) (.cells #[.float .f64 a0, .float .f64 a1, .float .f64 a2, .float .f64 a3] 58))
  go_enter Try.func58, Try.ntmps58
  go_wp2_with fail
  refine (k47 HA.out.1 HA.out.2.1 HA.out.2.2.1 HA.out.2.2.2 _).mono ?_
  rintro e w2 ⟨⟨x0, x1, x2, x3, rfl, hz⟩, hb⟩
  have HZ := Lib.hid hz
  have B2 := Lib.hid (B0.out.trans (hb.mono B0.out.size))
  have B3 := Lib.hid (B2.out.alloc B2.out.size (.cells #[.float .f64 x0, .float .f64 x1, .float .f64 x2, .float .f64 x3] 61))
  obtain ⟨s0, s1, s2, s3⟩ := store4n w2 61
  clear hz hb
  have e0 := RV.le HZ.out.1 HX.out.1
  cases h0 : fleP (loP A0 A2) X
  · rw [h0] at e0
    have K0 := Lib.hid h0
    clear h0
    have HH : Hid (hasP A0 A1 A2 A3 X Y = false) := Lib.hid (by unfold hasP; rw [K0.out]; simp)
    go_wp2
    go_ret
    exact ⟨ret_bool HH.out.symm, B3.out⟩
  · rw [h0] at e0
    have K0 := Lib.hid h0
    clear h0
    have e1 := RV.lt HX.out.1 HZ.out.2.2.1
    cases h1 : fltP X (hiP A0 A2)
    · rw [h1] at e1
      have K1 := Lib.hid h1
      clear h1
      have HH : Hid (hasP A0 A1 A2 A3 X Y = false) := Lib.hid (by unfold hasP; rw [K0.out, K1.out]; simp)
      go_wp2
      go_ret
      exact ⟨ret_bool HH.out.symm, B3.out⟩
    · rw [h1] at e1
      have K1 := Lib.hid h1
      clear h1
      have e2 := RV.le HZ.out.2.1 HX.out.2
      cases h2 : fleP (loP A1 A3) Y
      · rw [h2] at e2
        have K2 := Lib.hid h2
        clear h2
        have HH : Hid (hasP A0 A1 A2 A3 X Y = false) := Lib.hid (by unfold hasP; rw [K0.out, K1.out, K2.out]; simp)
        go_wp2
        go_ret
        exact ⟨ret_bool HH.out.symm, B3.out⟩
      · rw [h2] at e2
        have K2 := Lib.hid h2
        clear h2
        have e3 := RV.lt HX.out.2 HZ.out.2.2.2
        cases h3 : fltP Y (hiP A1 A3)
        · rw [h3] at e3
          have K3 := Lib.hid h3
          clear h3
          have HH : Hid (hasP A0 A1 A2 A3 X Y = false) := Lib.hid (by unfold hasP; rw [K0.out, K1.out, K2.out, K3.out]; simp)
          go_wp2
          go_ret
          exact ⟨ret_bool HH.out.symm, B3.out⟩
        · rw [h3] at e3
          have K3 := Lib.hid h3
          clear h3
          have HH : Hid (hasP A0 A1 A2 A3 X Y = true) := Lib.hid (by unfold hasP; rw [K0.out, K1.out, K2.out, K3.out]; simp)
          go_wp2
          go_ret
          exact ⟨ret_bool HH.out.symm, B3.out⟩
end Go.Proofs.Ytelalledjbeenaa
