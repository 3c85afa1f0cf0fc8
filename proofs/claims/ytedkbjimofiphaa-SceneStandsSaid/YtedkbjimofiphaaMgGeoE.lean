/- SameRect, both Has, both Meet: printed by geo4.py. Both Meet: printed by geo5.py. Matrices: a row times four numbers: printed by geo6.py. less, two; what rows may answer; Apply: printed by geo7.py. Identity, Scale. Scale and its fellows: printed by geo8.py. The square root, Turn. Turn: printed by geo9.py. -/
import Derived.Test.YtedkbjimofiphaaMgGeoA
import Derived.Laws.Externs
namespace Go.Proofs.Ytedkbjimofiphaa
open Go.RowKit Fl
set_option maxRecDepth 100000 in
set_option maxHeartbeats 2000000 in
theorem k54 {a0 b0 a1 b1 a2 b2 a3 b3 : Nat} {P0 P1 P2 P3 : Int} (ha0 : RV a0 P0) (hb0 : RV b0 P0) (ha1 : RV a1 P1) (hb1 : RV b1 P1) (ha2 : RV a2 P2) (hb2 : RV b2 P2) (ha3 : RV a3 P3) (hb3 : RV b3 P3) (w : World) :
    Calls Try.prog 11 #[.agg #[.float .f64 a0, .float .f64 a1, .float .f64 a2, .float .f64 a3], .agg #[.float .f64 b0, .float .f64 b1, .float .f64 b2, .float .f64 b3]] w fun e w' => e = .returned (.bool true) ∧ Below w.heap.size w w' := by
  have HA := Lib.hid (And.intro ha0 (And.intro ha1 (And.intro ha2 ha3)))
  have HB := Lib.hid (And.intro hb0 (And.intro hb1 (And.intro hb2 hb3)))
  clear ha0 ha1 ha2 ha3 hb0 hb1 hb2 hb3
  have BB := Lib.hid (((Below.refl w.heap.size w).alloc (Nat.le_refl _) (.cells #[.float .f64 a0, .float .f64 a1, .float .f64 a2, .float .f64 a3] 33)).alloc (by simp) (.cells #[.float .f64 b0, .float .f64 b1, .float .f64 b2, .float .f64 b3] 33))
  go_enter Try.func11, Try.ntmps11
  go_wp2_with fail
  refine (k32 HA.out.1 HB.out.1 _).mono ?_
  rintro e w' ⟨rfl, rfl⟩
  go_wp2_with fail
  refine (k32 HA.out.2.1 HB.out.2.1 _).mono ?_
  rintro e w' ⟨rfl, rfl⟩
  go_wp2_with fail
  refine (k32 HA.out.2.2.1 HB.out.2.2.1 _).mono ?_
  rintro e w' ⟨rfl, rfl⟩
  go_wp2_with fail
  refine (k32 HA.out.2.2.2 HB.out.2.2.2 _).mono ?_
  rintro e w' ⟨rfl, rfl⟩
  go_wp2
  go_ret
  exact ⟨rfl, BB.out⟩
/-- is a point in a rectangle? -/
def hasP (A0 A1 A2 A3 X Y : Int) : Bool := fleP (loP A0 A2) X && fltP X (hiP A0 A2) && fleP (loP A1 A3) Y && fltP Y (hiP A1 A3)
set_option maxRecDepth 100000 in
set_option maxHeartbeats 2000000 in
theorem k57 {a0 a1 a2 a3 x y : Nat} {A0 A1 A2 A3 X Y : Int} (ha0 : RV a0 A0) (ha1 : RV a1 A1) (ha2 : RV a2 A2) (ha3 : RV a3 A3) (hx : RV x X) (hy : RV y Y) (w : World) :
    Calls Try.prog 65 #[.agg #[.float .f64 a0, .float .f64 a1, .float .f64 a2, .float .f64 a3], .float .f64 x, .float .f64 y] w fun e w' => e = .returned (.bool (hasP A0 A1 A2 A3 X Y)) ∧ Below w.heap.size w w' := by
  have HA := Lib.hid (And.intro ha0 (And.intro ha1 (And.intro ha2 ha3)))
  have HX := Lib.hid (And.intro hx hy)
  clear ha0 ha1 ha2 ha3 hx hy
  have B0 := Lib.hid ((Below.refl w.heap.size w).alloc (Nat.le_refl _) (.cells #[.float .f64 a0, .float .f64 a1, .float .f64 a2, .float .f64 a3] 33))
  cases h0 : fleP (loP A0 A2) X
  · have K0 := Lib.hid h0
    clear h0
    have HH : Hid (hasP A0 A1 A2 A3 X Y = false) := Lib.hid (by unfold hasP; rw [K0.out]; simp)
    rw [HH.out]
    go_enter Try.func65, Try.ntmps65
    go_wp2_with fail
    refine (k48 HA.out.1 HA.out.2.1 HA.out.2.2.1 HA.out.2.2.2 _).mono ?_
    rintro e w1 ⟨⟨r0, rfl, hr⟩, hb⟩
    have HR0 := Lib.hid hr
    have B1 := Lib.hid (B0.out.trans (hb.mono B0.out.size))
    have ra : w1.rangeAt w.heap.size 0 [.float .f64 a0, .float .f64 a1, .float .f64 a2, .float .f64 a3] := range_below (range_new w [.float .f64 a0, .float .f64 a1, .float .f64 a2, .float .f64 a3] 33) hb (by simp)
    have RA1 := Lib.hid (And.intro ra (show w.heap.size < w1.heap.size by have := hb.size; simp at this; omega))
    have e0 := RV.le HR0.out HX.out.1
    rw [K0.out] at e0
    clear hr hb ra
    go_wp2
    go_ret
    exact ⟨rfl, B1.out⟩
  · have K0 := Lib.hid h0
    clear h0
    cases h1 : fltP X (hiP A0 A2)
    · have K1 := Lib.hid h1
      clear h1
      have HH : Hid (hasP A0 A1 A2 A3 X Y = false) := Lib.hid (by unfold hasP; rw [K0.out, K1.out]; simp)
      rw [HH.out]
      go_enter Try.func65, Try.ntmps65
      go_wp2_with fail
      refine (k48 HA.out.1 HA.out.2.1 HA.out.2.2.1 HA.out.2.2.2 _).mono ?_
      rintro e w1 ⟨⟨r0, rfl, hr⟩, hb⟩
      have HR0 := Lib.hid hr
      have B1 := Lib.hid (B0.out.trans (hb.mono B0.out.size))
      have ra : w1.rangeAt w.heap.size 0 [.float .f64 a0, .float .f64 a1, .float .f64 a2, .float .f64 a3] := range_below (range_new w [.float .f64 a0, .float .f64 a1, .float .f64 a2, .float .f64 a3] 33) hb (by simp)
      have RA1 := Lib.hid (And.intro ra (show w.heap.size < w1.heap.size by have := hb.size; simp at this; omega))
      have e0 := RV.le HR0.out HX.out.1
      rw [K0.out] at e0
      clear hr hb ra
      obtain ⟨q0, q1, q2, q3⟩ := cells4 RA1.out.1
      go_wp2_with fail
      refine (k50 HA.out.1 HA.out.2.1 HA.out.2.2.1 HA.out.2.2.2 _).mono ?_
      rintro e w2 ⟨⟨r1, rfl, hr⟩, hb⟩
      have HR1 := Lib.hid hr
      have B2 := Lib.hid (B1.out.trans (hb.mono B1.out.size))
      have RA2 := Lib.hid (And.intro (range_below RA1.out.1 hb RA1.out.2) (Nat.lt_of_lt_of_le RA1.out.2 hb.size))
      have e1 := RV.lt HX.out.1 HR1.out
      rw [K1.out] at e1
      clear hr hb
      clear q0 q1 q2 q3
      go_wp2
      go_ret
      exact ⟨rfl, B2.out⟩
    · have K1 := Lib.hid h1
      clear h1
      cases h2 : fleP (loP A1 A3) Y
      · have K2 := Lib.hid h2
        clear h2
        have HH : Hid (hasP A0 A1 A2 A3 X Y = false) := Lib.hid (by unfold hasP; rw [K0.out, K1.out, K2.out]; simp)
        rw [HH.out]
        go_enter Try.func65, Try.ntmps65
        go_wp2_with fail
        refine (k48 HA.out.1 HA.out.2.1 HA.out.2.2.1 HA.out.2.2.2 _).mono ?_
        rintro e w1 ⟨⟨r0, rfl, hr⟩, hb⟩
        have HR0 := Lib.hid hr
        have B1 := Lib.hid (B0.out.trans (hb.mono B0.out.size))
        have ra : w1.rangeAt w.heap.size 0 [.float .f64 a0, .float .f64 a1, .float .f64 a2, .float .f64 a3] := range_below (range_new w [.float .f64 a0, .float .f64 a1, .float .f64 a2, .float .f64 a3] 33) hb (by simp)
        have RA1 := Lib.hid (And.intro ra (show w.heap.size < w1.heap.size by have := hb.size; simp at this; omega))
        have e0 := RV.le HR0.out HX.out.1
        rw [K0.out] at e0
        clear hr hb ra
        obtain ⟨q0, q1, q2, q3⟩ := cells4 RA1.out.1
        go_wp2_with fail
        refine (k50 HA.out.1 HA.out.2.1 HA.out.2.2.1 HA.out.2.2.2 _).mono ?_
        rintro e w2 ⟨⟨r1, rfl, hr⟩, hb⟩
        have HR1 := Lib.hid hr
        have B2 := Lib.hid (B1.out.trans (hb.mono B1.out.size))
        have RA2 := Lib.hid (And.intro (range_below RA1.out.1 hb RA1.out.2) (Nat.lt_of_lt_of_le RA1.out.2 hb.size))
        have e1 := RV.lt HX.out.1 HR1.out
        rw [K1.out] at e1
        clear hr hb
        clear q0 q1 q2 q3
        obtain ⟨q0, q1, q2, q3⟩ := cells4 RA2.out.1
        go_wp2_with fail
        refine (k49 HA.out.1 HA.out.2.1 HA.out.2.2.1 HA.out.2.2.2 _).mono ?_
        rintro e w3 ⟨⟨r2, rfl, hr⟩, hb⟩
        have HR2 := Lib.hid hr
        have B3 := Lib.hid (B2.out.trans (hb.mono B2.out.size))
        have RA3 := Lib.hid (And.intro (range_below RA2.out.1 hb RA2.out.2) (Nat.lt_of_lt_of_le RA2.out.2 hb.size))
        have e2 := RV.le HR2.out HX.out.2
        rw [K2.out] at e2
        clear hr hb
        clear q0 q1 q2 q3
        go_wp2
        go_ret
        exact ⟨rfl, B3.out⟩
      · have K2 := Lib.hid h2
        clear h2
        cases h3 : fltP Y (hiP A1 A3)
        · have K3 := Lib.hid h3
          clear h3
          have HH : Hid (hasP A0 A1 A2 A3 X Y = false) := Lib.hid (by unfold hasP; rw [K0.out, K1.out, K2.out, K3.out]; simp)
          rw [HH.out]
          go_enter Try.func65, Try.ntmps65
          go_wp2_with fail
          refine (k48 HA.out.1 HA.out.2.1 HA.out.2.2.1 HA.out.2.2.2 _).mono ?_
          rintro e w1 ⟨⟨r0, rfl, hr⟩, hb⟩
          have HR0 := Lib.hid hr
          have B1 := Lib.hid (B0.out.trans (hb.mono B0.out.size))
          have ra : w1.rangeAt w.heap.size 0 [.float .f64 a0, .float .f64 a1, .float .f64 a2, .float .f64 a3] := range_below (range_new w [.float .f64 a0, .float .f64 a1, .float .f64 a2, .float .f64 a3] 33) hb (by simp)
          have RA1 := Lib.hid (And.intro ra (show w.heap.size < w1.heap.size by have := hb.size; simp at this; omega))
          have e0 := RV.le HR0.out HX.out.1
          rw [K0.out] at e0
          clear hr hb ra
          obtain ⟨q0, q1, q2, q3⟩ := cells4 RA1.out.1
          go_wp2_with fail
          refine (k50 HA.out.1 HA.out.2.1 HA.out.2.2.1 HA.out.2.2.2 _).mono ?_
          rintro e w2 ⟨⟨r1, rfl, hr⟩, hb⟩
          have HR1 := Lib.hid hr
          have B2 := Lib.hid (B1.out.trans (hb.mono B1.out.size))
          have RA2 := Lib.hid (And.intro (range_below RA1.out.1 hb RA1.out.2) (Nat.lt_of_lt_of_le RA1.out.2 hb.size))
          have e1 := RV.lt HX.out.1 HR1.out
          rw [K1.out] at e1
          clear hr hb
          clear q0 q1 q2 q3
          obtain ⟨q0, q1, q2, q3⟩ := cells4 RA2.out.1
          go_wp2_with fail
          refine (k49 HA.out.1 HA.out.2.1 HA.out.2.2.1 HA.out.2.2.2 _).mono ?_
          rintro e w3 ⟨⟨r2, rfl, hr⟩, hb⟩
          have HR2 := Lib.hid hr
          have B3 := Lib.hid (B2.out.trans (hb.mono B2.out.size))
          have RA3 := Lib.hid (And.intro (range_below RA2.out.1 hb RA2.out.2) (Nat.lt_of_lt_of_le RA2.out.2 hb.size))
          have e2 := RV.le HR2.out HX.out.2
          rw [K2.out] at e2
          clear hr hb
          clear q0 q1 q2 q3
          obtain ⟨q0, q1, q2, q3⟩ := cells4 RA3.out.1
          go_wp2_with fail
          refine (k51 HA.out.1 HA.out.2.1 HA.out.2.2.1 HA.out.2.2.2 _).mono ?_
          rintro e w4 ⟨⟨r3, rfl, hr⟩, hb⟩
          have HR3 := Lib.hid hr
          have B4 := Lib.hid (B3.out.trans (hb.mono B3.out.size))
          have RA4 := Lib.hid (And.intro (range_below RA3.out.1 hb RA3.out.2) (Nat.lt_of_lt_of_le RA3.out.2 hb.size))
          have e3 := RV.lt HX.out.2 HR3.out
          rw [K3.out] at e3
          clear hr hb
          clear q0 q1 q2 q3
          go_wp2
          go_ret
          exact ⟨rfl, B4.out⟩
        · have K3 := Lib.hid h3
          clear h3
          have HH : Hid (hasP A0 A1 A2 A3 X Y = true) := Lib.hid (by unfold hasP; rw [K0.out, K1.out, K2.out, K3.out]; simp)
          rw [HH.out]
          go_enter Try.func65, Try.ntmps65
          go_wp2_with fail
          refine (k48 HA.out.1 HA.out.2.1 HA.out.2.2.1 HA.out.2.2.2 _).mono ?_
          rintro e w1 ⟨⟨r0, rfl, hr⟩, hb⟩
          have HR0 := Lib.hid hr
          have B1 := Lib.hid (B0.out.trans (hb.mono B0.out.size))
          have ra : w1.rangeAt w.heap.size 0 [.float .f64 a0, .float .f64 a1, .float .f64 a2, .float .f64 a3] := range_below (range_new w [.float .f64 a0, .float .f64 a1, .float .f64 a2, .float .f64 a3] 33) hb (by simp)
          have RA1 := Lib.hid (And.intro ra (show w.heap.size < w1.heap.size by have := hb.size; simp at this; omega))
          have e0 := RV.le HR0.out HX.out.1
          rw [K0.out] at e0
          clear hr hb ra
          obtain ⟨q0, q1, q2, q3⟩ := cells4 RA1.out.1
          go_wp2_with fail
          refine (k50 HA.out.1 HA.out.2.1 HA.out.2.2.1 HA.out.2.2.2 _).mono ?_
          rintro e w2 ⟨⟨r1, rfl, hr⟩, hb⟩
          have HR1 := Lib.hid hr
          have B2 := Lib.hid (B1.out.trans (hb.mono B1.out.size))
          have RA2 := Lib.hid (And.intro (range_below RA1.out.1 hb RA1.out.2) (Nat.lt_of_lt_of_le RA1.out.2 hb.size))
          have e1 := RV.lt HX.out.1 HR1.out
          rw [K1.out] at e1
          clear hr hb
          clear q0 q1 q2 q3
          obtain ⟨q0, q1, q2, q3⟩ := cells4 RA2.out.1
          go_wp2_with fail
          refine (k49 HA.out.1 HA.out.2.1 HA.out.2.2.1 HA.out.2.2.2 _).mono ?_
          rintro e w3 ⟨⟨r2, rfl, hr⟩, hb⟩
          have HR2 := Lib.hid hr
          have B3 := Lib.hid (B2.out.trans (hb.mono B2.out.size))
          have RA3 := Lib.hid (And.intro (range_below RA2.out.1 hb RA2.out.2) (Nat.lt_of_lt_of_le RA2.out.2 hb.size))
          have e2 := RV.le HR2.out HX.out.2
          rw [K2.out] at e2
          clear hr hb
          clear q0 q1 q2 q3
          obtain ⟨q0, q1, q2, q3⟩ := cells4 RA3.out.1
          go_wp2_with fail
          refine (k51 HA.out.1 HA.out.2.1 HA.out.2.2.1 HA.out.2.2.2 _).mono ?_
          rintro e w4 ⟨⟨r3, rfl, hr⟩, hb⟩
          have HR3 := Lib.hid hr
          have B4 := Lib.hid (B3.out.trans (hb.mono B3.out.size))
          have RA4 := Lib.hid (And.intro (range_below RA3.out.1 hb RA3.out.2) (Nat.lt_of_lt_of_le RA3.out.2 hb.size))
          have e3 := RV.lt HX.out.2 HR3.out
          rw [K3.out] at e3
          clear hr hb
          clear q0 q1 q2 q3
          go_wp2
          go_ret
          exact ⟨rfl, B4.out⟩
end Go.Proofs.Ytedkbjimofiphaa

namespace Go.Proofs.Ytedkbjimofiphaa
open Go.RowKit Fl
theorem RV_zero : RV 0 0 := ⟨by unfold U; decide, by decide⟩
theorem ret_row2 (P : Program) {fn : Func} {p q : Tmp} {ty : TypeId} (h : fn.results = #[.cell p ty, .tmp q]) {tmps : Array Value} {b : Nat} (hp : tmps.getD p undef = .pointer (some ⟨b, 0, none⟩)) {W : World} (cs : List Value) {d : TypeDesc}
    (ht : W.there b 0 cs.length) (hu : P.underlying ty = some d) (hd : d.isRow = true) (hi : (P.info? ty).map (·.size) = some cs.length) :
    (results fn tmps).run P (W.setCells b 0 cs) = .ok (.tuple #[.agg cs.toArray, tmps.getD q undef]) (W.setCells b 0 cs) := by
  have hl := run_loadVar_mid (P := P) _ _ 0 ty cs _ (World.rangeAt_setCells_same W b 0 cs ht) hu hd hi
  have hp' : tmps[p]?.getD undef = .pointer (some ⟨b, 0, none⟩) := by simpa using hp
  simp [results, h, hp', asAddr, hl]
end Go.Proofs.Ytedkbjimofiphaa

namespace Go.Proofs.Ytedkbjimofiphaa
open Go.RowKit Fl
/-- sixteen words -/
def MU (ms : List Nat) : Prop := ms.length = 16 ∧ ∀ x ∈ ms, U x
/-- their places -/
def mp (ms : List Nat) (j : Nat) : Int := pl (ms.getD j 0)
theorem MU.get {ms : List Nat} (h : MU ms) {j : Nat} (hj : j < 16) : ∃ x, ms[j]? = some x ∧ RV x (mp ms j) := by
  have hl : j < ms.length := by rw [h.1]; exact hj
  refine ⟨ms[j], List.getElem?_eq_getElem hl, h.2 _ (List.getElem_mem hl), ?_⟩
  unfold mp
  rw [List.getD_eq_getElem?_getD, List.getElem?_eq_getElem hl]; rfl
theorem map_get {ms : List Nat} {j x : Nat} (h : ms[j]? = some x) : (ms.map (Value.float .f64))[j]? = some (.float .f64 x) := by rw [List.getElem?_map, h]; rfl
def rowP (m : Nat → Int) (i : Nat) (x y z w : Int) : Int :=
  opP .add (opP .add (opP .add (opP .mul (m i) x) (opP .mul (m (4 + i)) y)) (opP .mul (m (8 + i)) z)) (opP .mul (m (12 + i)) w)
theorem size80 : (Try.prog.info? 44).map (·.size) = some 16 := by kernel_rfl
set_option maxRecDepth 100000 in
set_option maxHeartbeats 2000000 in
theorem k162 {ms : List Nat} {i x y z u : Nat} {X Y Z W : Int} (hm : MU ms) (hi : i < 4) (hx : RV x X) (hy : RV y Y) (hz : RV z Z) (hu : RV u W) (w : World) :
    Calls Try.prog 56 #[.agg (ms.map (Value.float .f64)).toArray, .int .i64 (i : Int), .float .f64 x, .float .f64 y, .float .f64 z, .float .f64 u] w fun e w' => RetR (rowP (mp ms) i X Y Z W) e ∧ Below w.heap.size w w' := by
  obtain ⟨m0, c0, r0⟩ := hm.get (j := i) (by omega)
  obtain ⟨m1, c1, r1⟩ := hm.get (j := 4 + i) (by omega)
  obtain ⟨m2, c2, r2⟩ := hm.get (j := 8 + i) (by omega)
  obtain ⟨m3, c3, r3⟩ := hm.get (j := 12 + i) (by omega)
  have C0 := Lib.hid (map_get c0)
  have C1 := Lib.hid (map_get c1)
  have C2 := Lib.hid (map_get c2)
  have C3 := Lib.hid (map_get c3)
  have RM := Lib.hid (And.intro r0 (And.intro r1 (And.intro r2 r3)))
  have RX := Lib.hid (And.intro hx (And.intro hy (And.intro hz hu)))
  have i0 : (0 : Int) ≤ (i : Int) := by omega
  have i4 : (i : Int) < 16 := by omega
  have i5 : 4 + (i : Int) < 16 := by omega
  have i6 : 8 + (i : Int) < 16 := by omega
  have i7 : 12 + (i : Int) < 16 := by omega
  clear c0 c1 c2 c3 r0 r1 r2 r3 hx hy hz hu hm hi
  go_enter Try.func56, Try.ntmps56
  go_wp2_with fail
  refine wp_gen (fun wx => Hid (wx.rangeAt w.heap.size 0 (ms.map (Value.float .f64)) ∧ Below w.heap.size w wx ∧ w.heap.size < wx.heap.size)) (Lib.hid ⟨range_new w _ 44, (Below.refl _ _).alloc (Nat.le_refl _) _, by simp⟩) ?_
  intro wc hW
  have ra : ∀ w', Below wc.heap.size wc w' → w'.rangeAt w.heap.size 0 (ms.map (Value.float .f64)) := fun w' hw => range_below hW.out.1 hw hW.out.2.2
  have W1 : IntKind.i64.wrap (4 + (i : Int)) = 4 + (i : Int) := by rw [IntKind.wrap_i64]; omega
  have N1 : (0 : Int) ≤ 4 + (i : Int) := by omega
  have T1 : (4 + (i : Int)).toNat = 4 + i := by omega
  refine wp_region_rel 13 (fun w' => Below wc.heap.size wc w') GEO (by kernel_rfl) (by kernel_rfl) ((Below.refl _ _).drew) ?_
  simp only [List.take_succ_cons, List.take_zero, List.drop_succ_cons, List.drop_zero]
  refine rel_move (v := .int .i64 (i : Int)) rfl rfl ?_
  simp only [Act.put, List.setIfInBounds_toArray, List.set_cons_succ, List.set_cons_zero]
  refine rel_val (v := .pointer (some ⟨w.heap.size, i, none⟩)) rfl (fun w' hw => by go_simp) ?_
  simp only [Act.put, List.setIfInBounds_toArray, List.set_cons_succ, List.set_cons_zero]
  refine rel_loadF (w.heap.size) (i) m0 rfl rfl (fun w' hw => ra w' hw (i) _ C0.out) ?_
  simp only [Act.put, List.setIfInBounds_toArray, List.set_cons_succ, List.set_cons_zero]
  refine rel_move (v := .float .f64 x) rfl rfl ?_
  simp only [Act.put, List.setIfInBounds_toArray, List.set_cons_succ, List.set_cons_zero]
  refine rel_fop (w0 := wc) (op := .mul) rfl rfl rfl RM.out.1 RX.out.1 rfl ?_
  intro s1 hs1
  simp only [Act.put, List.setIfInBounds_toArray, List.set_cons_succ, List.set_cons_zero]
  refine rel_move (v := .int .i64 (i : Int)) rfl rfl ?_
  simp only [Act.put, List.setIfInBounds_toArray, List.set_cons_succ, List.set_cons_zero]
  refine rel_val (v := .int .i64 (4 + (i : Int))) rfl (fun w' hw => by go_simp) ?_
  simp only [Act.put, List.setIfInBounds_toArray, List.set_cons_succ, List.set_cons_zero]
  refine rel_val (v := .pointer (some ⟨w.heap.size, 4 + i, none⟩)) rfl (fun w' hw => by go_simp) ?_
  simp only [Act.put, List.setIfInBounds_toArray, List.set_cons_succ, List.set_cons_zero]
  refine rel_loadF (w.heap.size) (4 + i) m1 rfl rfl (fun w' hw => ra w' hw (4 + i) _ C1.out) ?_
  simp only [Act.put, List.setIfInBounds_toArray, List.set_cons_succ, List.set_cons_zero]
  refine rel_move (v := .float .f64 y) rfl rfl ?_
  simp only [Act.put, List.setIfInBounds_toArray, List.set_cons_succ, List.set_cons_zero]
  refine rel_fop (w0 := wc) (op := .mul) rfl rfl rfl RM.out.2.1 RX.out.2.1 rfl ?_
  intro s2 hs2
  simp only [Act.put, List.setIfInBounds_toArray, List.set_cons_succ, List.set_cons_zero]
  refine rel_fop (w0 := wc) (op := .add) rfl rfl rfl hs1 hs2 rfl ?_
  intro s3 hs3
  simp only [Act.put, List.setIfInBounds_toArray, List.set_cons_succ, List.set_cons_zero]
  refine rel_assign (v := .float .f64 s3) rfl rfl ?_
  simp only [Act.put, List.setIfInBounds_toArray, List.set_cons_succ, List.set_cons_zero]
  refine rel_nil ?_
  intro w3 hB3
  have R1 := Lib.hid hs3
  have B3 := Lib.hid (hW.out.2.1.trans (hB3.mono (Nat.le_of_lt hW.out.2.2)))
  have kk := ra w3 hB3
  have k2 : w3.cell? ⟨w.heap.size, 8 + i, none⟩ = some (.float .f64 m2) := by have := kk (8 + i) _ C2.out; rwa [Nat.zero_add] at this
  have k3 : w3.cell? ⟨w.heap.size, 12 + i, none⟩ = some (.float .f64 m3) := by have := kk (12 + i) _ C3.out; rwa [Nat.zero_add] at this
  have hA := fun x y w => run_fop (P := Try.prog) .add rfl 31 x y w
  have hM := fun x y w => run_fop (P := Try.prog) .mul rfl 31 x y w
  have BD := Lib.hid (fun n => Bd B3.out n)
  clear hB3 kk ra hW W1 N1 T1
  go_wp2
  go_ret
  exact ⟨⟨_, rfl, RV.fop .add (RV.fop .add R1.out (RV.fop .mul RM.out.2.2.1 RX.out.2.2.1 _) _) (RV.fop .mul RM.out.2.2.2 RX.out.2.2.2 _) _⟩, BD.out _⟩
end Go.Proofs.Ytedkbjimofiphaa

namespace Go.Proofs.Ytedkbjimofiphaa
open Go.RowKit Fl
def lessP (a b c d : Int) : Int := opP .sub (opP .mul a b) (opP .mul c d)
theorem size60 : (Try.prog.info? 126).map (·.size) = some 4 := by kernel_rfl
theorem mapF_inj {a b : List Nat} (h : Value.agg (a.map (Value.float .f64)).toArray = Value.agg (b.map (Value.float .f64)).toArray) : a = b := by
  injection h with h
  have h := congrArg Array.toList h
  have h : a.map (Value.float .f64) = b.map (Value.float .f64) := h
  have hi : ∀ x y : Nat, Value.float .f64 x = Value.float .f64 y → x = y := fun x y h => by injection h
  induction a generalizing b with
  | nil => cases b with
    | nil => rfl
    | cons _ _ => simp at h
  | cons x r ih =>
    cases b with
    | nil => simp at h
    | cons y s =>
      rw [List.map_cons, List.map_cons, List.cons.injEq] at h
      rename_i h1 h2
      rw [hi _ _ h.1, ih (b := s) (by rw [h.2]) (by rw [h.2]) h.2]
set_option maxRecDepth 100000 in
set_option maxHeartbeats 2000000 in
theorem k158 {a b c d : Nat} {A B C D : Int} (ha : RV a A) (hb : RV b B) (hc : RV c C) (hd : RV d D) (w : World) :
    Calls Try.prog 80 #[.float .f64 a, .float .f64 b, .float .f64 c, .float .f64 d] w fun e w' => RetR (lessP A B C D) e ∧ Below w.heap.size w w' := by
  have H := Lib.hid (And.intro ha (And.intro hb (And.intro hc hd)))
  have hA := fun x y w => run_fop (P := Try.prog) .sub rfl 31 x y w
  have hM := fun x y w => run_fop (P := Try.prog) .mul rfl 31 x y w
  have BD := Lib.hid (fun n => Bd (Below.refl w.heap.size w) n)
  clear ha hb hc hd
  go_enter Try.func80, Try.ntmps80
  go_wp2
  go_ret
  exact ⟨⟨_, rfl, RV.fop .sub (RV.fop .mul H.out.1 H.out.2.1 _) (RV.fop .mul H.out.2.2.1 H.out.2.2.2 _) _⟩, BD.out _⟩
def GEM (f : FuncId) (args : Array Value) (v : Value) : Prop :=
  match f with
  | 80 => ∀ (a0 a1 a2 a3 : Nat), args = #[.float .f64 a0, .float .f64 a1, .float .f64 a2, .float .f64 a3] → ∃ r : Nat, v = .float .f64 r ∧ RV r (lessP (pl a0) (pl a1) (pl a2) (pl a3))
  | 56 => ∀ (m0 : List Nat) (i0 a0 a1 a2 a3 : Nat), args = #[.agg (m0.map (Value.float .f64)).toArray, .int .i64 (i0 : Int), .float .f64 a0, .float .f64 a1, .float .f64 a2, .float .f64 a3] → ∃ r : Nat, v = .float .f64 r ∧ RV r (rowP (mp m0) i0 (pl a0) (pl a1) (pl a2) (pl a3))
  | _ => True
theorem g158 {w0 w : World} {a0 a1 a2 a3 : Nat} {P0 P1 P2 P3 : Int} (h0 : RV a0 P0) (h1 : RV a1 P1) (h2 : RV a2 P2) (h3 : RV a3 P3) (hw : Below w0.heap.size w0 w) : Calls Try.prog 80 #[.float .f64 a0, .float .f64 a1, .float .f64 a2, .float .f64 a3] w fun e w' => ∃ v, e = .returned v ∧ GEM 80 #[.float .f64 a0, .float .f64 a1, .float .f64 a2, .float .f64 a3] v ∧ Below w0.heap.size w0 w' :=
  (k158 (RV.self h0.1) (RV.self h1.1) (RV.self h2.1) (RV.self h3.1) w).mono fun e w' ⟨⟨r, he, hr⟩, hb⟩ => ⟨_, he, fun ba0 ba1 ba2 ba3 hh => by cases hh; exact ⟨r, rfl, hr⟩, below_trans hw hb⟩
theorem G158 {a0 a1 a2 a3 : Nat} {P0 P1 P2 P3 : Int} {v : Value} (hv : GEM 80 #[.float .f64 a0, .float .f64 a1, .float .f64 a2, .float .f64 a3] v) (h0 : RV a0 P0) (h1 : RV a1 P1) (h2 : RV a2 P2) (h3 : RV a3 P3) : ∃ r : Nat, v = .float .f64 r ∧ RV r (lessP P0 P1 P2 P3) := by
  obtain ⟨_, rfl⟩ := h0
  obtain ⟨_, rfl⟩ := h1
  obtain ⟨_, rfl⟩ := h2
  obtain ⟨_, rfl⟩ := h3
  exact hv _ _ _ _ rfl
theorem g162 {w0 w : World} {m0 : List Nat} {i0 a0 a1 a2 a3 : Nat} {P0 P1 P2 P3 : Int} (hm0 : MU m0) (hi0 : i0 < 4) (h0 : RV a0 P0) (h1 : RV a1 P1) (h2 : RV a2 P2) (h3 : RV a3 P3) (hw : Below w0.heap.size w0 w) : Calls Try.prog 56 #[.agg (m0.map (Value.float .f64)).toArray, .int .i64 (i0 : Int), .float .f64 a0, .float .f64 a1, .float .f64 a2, .float .f64 a3] w fun e w' => ∃ v, e = .returned v ∧ GEM 56 #[.agg (m0.map (Value.float .f64)).toArray, .int .i64 (i0 : Int), .float .f64 a0, .float .f64 a1, .float .f64 a2, .float .f64 a3] v ∧ Below w0.heap.size w0 w' :=
  (k162 hm0 hi0 (RV.self h0.1) (RV.self h1.1) (RV.self h2.1) (RV.self h3.1) w).mono fun e w' ⟨⟨r, he, hr⟩, hb⟩ => ⟨_, he, fun bm0 bi0 ba0 ba1 ba2 ba3 hh => by
    simp only [Array.mk.injEq, List.cons.injEq, and_true, Value.float.injEq, Value.int.injEq, true_and, Int.ofNat_inj] at hh
    obtain ⟨e0, e1, e2, e3, e4, e5⟩ := hh
    obtain rfl := mapF_inj e0
    subst e1
    subst e2
    subst e3
    subst e4
    subst e5
    exact ⟨r, rfl, hr⟩, below_trans hw hb⟩
theorem G162 {m0 : List Nat} {i0 a0 a1 a2 a3 : Nat} {P0 P1 P2 P3 : Int} {v : Value} (hv : GEM 56 #[.agg (m0.map (Value.float .f64)).toArray, .int .i64 (i0 : Int), .float .f64 a0, .float .f64 a1, .float .f64 a2, .float .f64 a3] v) (h0 : RV a0 P0) (h1 : RV a1 P1) (h2 : RV a2 P2) (h3 : RV a3 P3) : ∃ r : Nat, v = .float .f64 r ∧ RV r (rowP (mp m0) i0 P0 P1 P2 P3) := by
  obtain ⟨_, rfl⟩ := h0
  obtain ⟨_, rfl⟩ := h1
  obtain ⟨_, rfl⟩ := h2
  obtain ⟨_, rfl⟩ := h3
  exact hv _ _ _ _ _ _ rfl
set_option maxRecDepth 100000 in
set_option maxHeartbeats 2000000 in
theorem k101 {ms : List Nat} {x y z u : Nat} {X Y Z W : Int} (hm : MU ms) (hx : RV x X) (hy : RV y Y) (hz : RV z Z) (hu : RV u W) (w : World) :
    Calls Try.prog 64 #[.agg (ms.map (Value.float .f64)).toArray, .agg #[.float .f64 x, .float .f64 y, .float .f64 z, .float .f64 u]] w fun e w' => RetQ (rowP (mp ms) 0 X Y Z W) (rowP (mp ms) 1 X Y Z W) (rowP (mp ms) 2 X Y Z W) (rowP (mp ms) 3 X Y Z W) e ∧ Below w.heap.size w w' := by
  have HM := Lib.hid hm
  have HP := Lib.hid (And.intro hx (And.intro hy (And.intro hz hu)))
  clear hm hx hy hz hu
  go_enter Try.func64, Try.ntmps64
  go_wp2_with fail
  refine wp_gen (fun wx => Hid (Two wx w (ms.map (Value.float .f64)) [.float .f64 x, .float .f64 y, .float .f64 z, .float .f64 u] 4)) (Lib.hid (two_entry w (ms.map (Value.float .f64)) [.float .f64 x, .float .f64 y, .float .f64 z, .float .f64 u] _ 44 126 126 4 rfl)) ?_
  intro wc hW
  have ra : ∀ w', Below wc.heap.size wc w' → w'.rangeAt w.heap.size 0 (ms.map (Value.float .f64)) := fun w' hw => range_below hW.out.r1 hw (by have := hW.out.lt; omega)
  have rb : ∀ w', Below wc.heap.size wc w' → w'.rangeAt (w.heap.size + 1) 0 [.float .f64 x, .float .f64 y, .float .f64 z, .float .f64 u] := fun w' hw => range_below hW.out.r2 hw (by have := hW.out.lt; omega)
  have RT := Lib.hid (fun w' (hw : Below wc.heap.size wc w') => there_below hW.out.t hw (by have := hW.out.lt; omega))
  have BW := Lib.hid hW.out.b
  have LW := Lib.hid hW.out.lt
  clear hW
  refine wp_region_rel 41 (fun w' => Below wc.heap.size wc w') GEM (by kernel_rfl) (by kernel_rfl) ((Below.refl _ _).drew) ?_
  simp only [List.take_succ_cons, List.take_zero, List.drop_succ_cons, List.drop_zero]
  refine rel_load_row (w.heap.size) 0 (ms.map (Value.float .f64)) _ rfl rfl ra Try.underlying44 rfl (by rw [List.length_map, HM.out.1]; exact size80) ?_
  simp only [Act.put, List.setIfInBounds_toArray, List.set_cons_succ, List.set_cons_zero]
  refine rel_val (v := .pointer (some ⟨w.heap.size + 1, 0, none⟩)) rfl (fun w' hw => by go_simp) ?_
  simp only [Act.put, List.setIfInBounds_toArray, List.set_cons_succ, List.set_cons_zero]
  refine rel_loadF (w.heap.size + 1) 0 x rfl rfl (fun w' hw => rb w' hw 0 _ rfl) ?_
  simp only [Act.put, List.setIfInBounds_toArray, List.set_cons_succ, List.set_cons_zero]
  refine rel_val (v := .pointer (some ⟨w.heap.size + 1, 1, none⟩)) rfl (fun w' hw => by go_simp) ?_
  simp only [Act.put, List.setIfInBounds_toArray, List.set_cons_succ, List.set_cons_zero]
  refine rel_loadF (w.heap.size + 1) 1 y rfl rfl (fun w' hw => rb w' hw 1 _ rfl) ?_
  simp only [Act.put, List.setIfInBounds_toArray, List.set_cons_succ, List.set_cons_zero]
  refine rel_val (v := .pointer (some ⟨w.heap.size + 1, 2, none⟩)) rfl (fun w' hw => by go_simp) ?_
  simp only [Act.put, List.setIfInBounds_toArray, List.set_cons_succ, List.set_cons_zero]
  refine rel_loadF (w.heap.size + 1) 2 z rfl rfl (fun w' hw => rb w' hw 2 _ rfl) ?_
  simp only [Act.put, List.setIfInBounds_toArray, List.set_cons_succ, List.set_cons_zero]
  refine rel_val (v := .pointer (some ⟨w.heap.size + 1, 3, none⟩)) rfl (fun w' hw => by go_simp) ?_
  simp only [Act.put, List.setIfInBounds_toArray, List.set_cons_succ, List.set_cons_zero]
  refine rel_loadF (w.heap.size + 1) 3 u rfl rfl (fun w' hw => rb w' hw 3 _ rfl) ?_
  simp only [Act.put, List.setIfInBounds_toArray, List.set_cons_succ, List.set_cons_zero]
  refine rel_call (f := 56) (args := #[.agg (ms.map (Value.float .f64)).toArray, .int .i64 0, .float .f64 x, .float .f64 y, .float .f64 z, .float .f64 u]) rfl (fun w' hw => by go_simp) (fun w' hw => g162 (i0 := 0) HM.out (by decide) HP.out.1 HP.out.2.1 HP.out.2.2.1 HP.out.2.2.2 hw) (fun v hv => ?_)
  obtain ⟨r1, rfl, hr1⟩ := G162 (i0 := 0) hv HP.out.1 HP.out.2.1 HP.out.2.2.1 HP.out.2.2.2
  simp only [Act.put, List.setIfInBounds_toArray, List.set_cons_succ, List.set_cons_zero]
  refine rel_load_row (w.heap.size) 0 (ms.map (Value.float .f64)) _ rfl rfl ra Try.underlying44 rfl (by rw [List.length_map, HM.out.1]; exact size80) ?_
  simp only [Act.put, List.setIfInBounds_toArray, List.set_cons_succ, List.set_cons_zero]
  refine rel_val (v := .pointer (some ⟨w.heap.size + 1, 0, none⟩)) rfl (fun w' hw => by go_simp) ?_
  simp only [Act.put, List.setIfInBounds_toArray, List.set_cons_succ, List.set_cons_zero]
  refine rel_loadF (w.heap.size + 1) 0 x rfl rfl (fun w' hw => rb w' hw 0 _ rfl) ?_
  simp only [Act.put, List.setIfInBounds_toArray, List.set_cons_succ, List.set_cons_zero]
  refine rel_val (v := .pointer (some ⟨w.heap.size + 1, 1, none⟩)) rfl (fun w' hw => by go_simp) ?_
  simp only [Act.put, List.setIfInBounds_toArray, List.set_cons_succ, List.set_cons_zero]
  refine rel_loadF (w.heap.size + 1) 1 y rfl rfl (fun w' hw => rb w' hw 1 _ rfl) ?_
  simp only [Act.put, List.setIfInBounds_toArray, List.set_cons_succ, List.set_cons_zero]
  refine rel_val (v := .pointer (some ⟨w.heap.size + 1, 2, none⟩)) rfl (fun w' hw => by go_simp) ?_
  simp only [Act.put, List.setIfInBounds_toArray, List.set_cons_succ, List.set_cons_zero]
  refine rel_loadF (w.heap.size + 1) 2 z rfl rfl (fun w' hw => rb w' hw 2 _ rfl) ?_
  simp only [Act.put, List.setIfInBounds_toArray, List.set_cons_succ, List.set_cons_zero]
  refine rel_val (v := .pointer (some ⟨w.heap.size + 1, 3, none⟩)) rfl (fun w' hw => by go_simp) ?_
  simp only [Act.put, List.setIfInBounds_toArray, List.set_cons_succ, List.set_cons_zero]
  refine rel_loadF (w.heap.size + 1) 3 u rfl rfl (fun w' hw => rb w' hw 3 _ rfl) ?_
  simp only [Act.put, List.setIfInBounds_toArray, List.set_cons_succ, List.set_cons_zero]
  refine rel_call (f := 56) (args := #[.agg (ms.map (Value.float .f64)).toArray, .int .i64 1, .float .f64 x, .float .f64 y, .float .f64 z, .float .f64 u]) rfl (fun w' hw => by go_simp) (fun w' hw => g162 (i0 := 1) HM.out (by decide) HP.out.1 HP.out.2.1 HP.out.2.2.1 HP.out.2.2.2 hw) (fun v hv => ?_)
  obtain ⟨r2, rfl, hr2⟩ := G162 (i0 := 1) hv HP.out.1 HP.out.2.1 HP.out.2.2.1 HP.out.2.2.2
  simp only [Act.put, List.setIfInBounds_toArray, List.set_cons_succ, List.set_cons_zero]
  refine rel_load_row (w.heap.size) 0 (ms.map (Value.float .f64)) _ rfl rfl ra Try.underlying44 rfl (by rw [List.length_map, HM.out.1]; exact size80) ?_
  simp only [Act.put, List.setIfInBounds_toArray, List.set_cons_succ, List.set_cons_zero]
  refine rel_val (v := .pointer (some ⟨w.heap.size + 1, 0, none⟩)) rfl (fun w' hw => by go_simp) ?_
  simp only [Act.put, List.setIfInBounds_toArray, List.set_cons_succ, List.set_cons_zero]
  refine rel_loadF (w.heap.size + 1) 0 x rfl rfl (fun w' hw => rb w' hw 0 _ rfl) ?_
  simp only [Act.put, List.setIfInBounds_toArray, List.set_cons_succ, List.set_cons_zero]
  refine rel_val (v := .pointer (some ⟨w.heap.size + 1, 1, none⟩)) rfl (fun w' hw => by go_simp) ?_
  simp only [Act.put, List.setIfInBounds_toArray, List.set_cons_succ, List.set_cons_zero]
  refine rel_loadF (w.heap.size + 1) 1 y rfl rfl (fun w' hw => rb w' hw 1 _ rfl) ?_
  simp only [Act.put, List.setIfInBounds_toArray, List.set_cons_succ, List.set_cons_zero]
  refine rel_val (v := .pointer (some ⟨w.heap.size + 1, 2, none⟩)) rfl (fun w' hw => by go_simp) ?_
  simp only [Act.put, List.setIfInBounds_toArray, List.set_cons_succ, List.set_cons_zero]
  refine rel_loadF (w.heap.size + 1) 2 z rfl rfl (fun w' hw => rb w' hw 2 _ rfl) ?_
  simp only [Act.put, List.setIfInBounds_toArray, List.set_cons_succ, List.set_cons_zero]
  refine rel_val (v := .pointer (some ⟨w.heap.size + 1, 3, none⟩)) rfl (fun w' hw => by go_simp) ?_
  simp only [Act.put, List.setIfInBounds_toArray, List.set_cons_succ, List.set_cons_zero]
  refine rel_loadF (w.heap.size + 1) 3 u rfl rfl (fun w' hw => rb w' hw 3 _ rfl) ?_
  simp only [Act.put, List.setIfInBounds_toArray, List.set_cons_succ, List.set_cons_zero]
  refine rel_call (f := 56) (args := #[.agg (ms.map (Value.float .f64)).toArray, .int .i64 2, .float .f64 x, .float .f64 y, .float .f64 z, .float .f64 u]) rfl (fun w' hw => by go_simp) (fun w' hw => g162 (i0 := 2) HM.out (by decide) HP.out.1 HP.out.2.1 HP.out.2.2.1 HP.out.2.2.2 hw) (fun v hv => ?_)
  obtain ⟨r3, rfl, hr3⟩ := G162 (i0 := 2) hv HP.out.1 HP.out.2.1 HP.out.2.2.1 HP.out.2.2.2
  simp only [Act.put, List.setIfInBounds_toArray, List.set_cons_succ, List.set_cons_zero]
  refine rel_load_row (w.heap.size) 0 (ms.map (Value.float .f64)) _ rfl rfl ra Try.underlying44 rfl (by rw [List.length_map, HM.out.1]; exact size80) ?_
  simp only [Act.put, List.setIfInBounds_toArray, List.set_cons_succ, List.set_cons_zero]
  refine rel_val (v := .pointer (some ⟨w.heap.size + 1, 0, none⟩)) rfl (fun w' hw => by go_simp) ?_
  simp only [Act.put, List.setIfInBounds_toArray, List.set_cons_succ, List.set_cons_zero]
  refine rel_loadF (w.heap.size + 1) 0 x rfl rfl (fun w' hw => rb w' hw 0 _ rfl) ?_
  simp only [Act.put, List.setIfInBounds_toArray, List.set_cons_succ, List.set_cons_zero]
  refine rel_val (v := .pointer (some ⟨w.heap.size + 1, 1, none⟩)) rfl (fun w' hw => by go_simp) ?_
  simp only [Act.put, List.setIfInBounds_toArray, List.set_cons_succ, List.set_cons_zero]
  refine rel_loadF (w.heap.size + 1) 1 y rfl rfl (fun w' hw => rb w' hw 1 _ rfl) ?_
  simp only [Act.put, List.setIfInBounds_toArray, List.set_cons_succ, List.set_cons_zero]
  refine rel_val (v := .pointer (some ⟨w.heap.size + 1, 2, none⟩)) rfl (fun w' hw => by go_simp) ?_
  simp only [Act.put, List.setIfInBounds_toArray, List.set_cons_succ, List.set_cons_zero]
  refine rel_loadF (w.heap.size + 1) 2 z rfl rfl (fun w' hw => rb w' hw 2 _ rfl) ?_
  simp only [Act.put, List.setIfInBounds_toArray, List.set_cons_succ, List.set_cons_zero]
  refine rel_val (v := .pointer (some ⟨w.heap.size + 1, 3, none⟩)) rfl (fun w' hw => by go_simp) ?_
  simp only [Act.put, List.setIfInBounds_toArray, List.set_cons_succ, List.set_cons_zero]
  refine rel_loadF (w.heap.size + 1) 3 u rfl rfl (fun w' hw => rb w' hw 3 _ rfl) ?_
  simp only [Act.put, List.setIfInBounds_toArray, List.set_cons_succ, List.set_cons_zero]
  refine rel_call (f := 56) (args := #[.agg (ms.map (Value.float .f64)).toArray, .int .i64 3, .float .f64 x, .float .f64 y, .float .f64 z, .float .f64 u]) rfl (fun w' hw => by go_simp) (fun w' hw => g162 (i0 := 3) HM.out (by decide) HP.out.1 HP.out.2.1 HP.out.2.2.1 HP.out.2.2.2 hw) (fun v hv => ?_)
  obtain ⟨r4, rfl, hr4⟩ := G162 (i0 := 3) hv HP.out.1 HP.out.2.1 HP.out.2.2.1 HP.out.2.2.2
  simp only [Act.put, List.setIfInBounds_toArray, List.set_cons_succ, List.set_cons_zero]
  refine rel_val (v := .agg #[.float .f64 r1, .float .f64 r2, .float .f64 r3, .float .f64 r4]) rfl (fun w' hw => by go_simp) ?_
  simp only [Act.put, List.setIfInBounds_toArray, List.set_cons_succ, List.set_cons_zero]
  refine rel_nil ?_
  intro w3 hB3
  have RR := Lib.hid (And.intro hr1 (And.intro hr2 (And.intro hr3 hr4)))
  have B3 := Lib.hid (BW.out.trans (hB3.mono (by have := LW.out; omega)))
  obtain ⟨s0, s1, s2, s3⟩ := store4 (RT.out w3 hB3)
  have T3 := Lib.hid (RT.out w3 hB3)
  clear hB3 ra rb
  go_wp2
  refine bodyPost_ret (v := .agg #[_, _, _, _]) (ret_row Try.prog Try.results64 rfl [_, _, _, _] T3.out Try.underlying126 rfl size60) rfl ?_
  exact ⟨⟨_, _, _, _, rfl, RR.out⟩, below_setCells B3.out (by omega) 0 [_, _, _, _]⟩
end Go.Proofs.Ytedkbjimofiphaa

namespace Go.Proofs.Ytedkbjimofiphaa
open Go.RowKit Fl
/-- the words of Identity, when so many ones are laid -/
def idK (k : Nat) : List Nat := (List.range 16).map fun j => if j % 5 = 0 ∧ j / 5 < k then 4607182418800017408 else 0
def idL : List Nat := idK 4
def z16 : List Nat := List.replicate 16 0
theorem range_set {W : World} {b n : Nat} {xs : List Nat} (h : W.rangeAt b 0 (xs.map (Value.float .f64))) (x : Nat) : (W.setCell ⟨b, n, none⟩ (.float .f64 x)).rangeAt b 0 ((xs.set n x).map (Value.float .f64)) := fun j v hj => by
  rw [Nat.zero_add]
  rw [List.getElem?_map, Option.map_eq_some_iff] at hj
  obtain ⟨y, hy, rfl⟩ := hj
  by_cases hjn : j = n
  · subst hjn
    have hl : j < xs.length := by have := (List.getElem?_eq_some_iff.1 hy).1; rwa [List.length_set] at this
    rw [List.getElem?_set_self hl] at hy
    injection hy with hy
    subst hy
    have h0 := h j _ (by rw [List.getElem?_map, List.getElem?_eq_getElem hl]; rfl)
    rw [Nat.zero_add] at h0
    exact World.cell?_setCell_same _ _ _ h0
  · rw [List.getElem?_set_ne (fun e => hjn e.symm)] at hy
    have h0 := h j (.float .f64 y) (by rw [List.getElem?_map, hy]; rfl)
    rw [Nat.zero_add] at h0
    exact (World.cell?_setCell_other _ _ _ _ (fun e => hjn (by injection e with _ e; exact e.symm))).trans h0
theorem one16 (xs : List Nat) : (xs.map (Value.float .f64)).toArray.all (·.oneCell') = true :=
  all_oneCell_toArray (fun v hv => by obtain ⟨x, _, rfl⟩ := List.mem_map.1 hv; rfl)
theorem size80L (xs : List Nat) (h : xs.length = 16) : (Try.prog.info? 44).map (·.size) = some (xs.map (Value.float .f64)).length := by rw [List.length_map, h]; exact size80
theorem size80A (xs : List Nat) (h : xs.length = 16) : (Try.prog.info? 44).map (·.size) = some (xs.map (Value.float .f64)).toArray.size := by rw [List.size_toArray]; exact size80L xs h
structure IdAt (wx w : World) (k : Nat) : Prop where
  r : wx.rangeAt (w.heap.size + 1) 0 ((idK k).map (Value.float .f64))
  t1 : wx.there (w.heap.size + 1) 0 16
  t0 : wx.there w.heap.size 0 16
  b : Below w.heap.size w wx
def Z16 : Array Value := #[.float .f64 0, .float .f64 0, .float .f64 0, .float .f64 0, .float .f64 0, .float .f64 0, .float .f64 0, .float .f64 0, .float .f64 0, .float .f64 0, .float .f64 0, .float .f64 0, .float .f64 0, .float .f64 0, .float .f64 0, .float .f64 0]
theorem Z16_list : Z16 = (z16.map (Value.float .f64)).toArray := rfl
theorem id0 : (idK 0) = z16 := by decide
theorem id_step (k : Nat) (h : k < 4) : (idK k).set (5 * k) 4607182418800017408 = idK (k + 1) := by
  rcases (by omega : k = 0 ∨ k = 1 ∨ k = 2 ∨ k = 3) with rfl | rfl | rfl | rfl <;> decide
theorem id_start (w : World) : IdAt ((w.alloc (.cells Z16 44)).alloc (.cells Z16 44)) w 0 := by
  have e1 : (w.alloc (.cells Z16 44)).heap.size = w.heap.size + 1 := by simp
  refine ⟨?_, ?_, there_below (there_new w Z16 44 16 rfl) (Below.alloc (Below.refl _ _) (Nat.le_refl _) _) (by simp), ((Below.refl _ _).alloc (Nat.le_refl _) _).alloc (by simp) _⟩
  · have := range_new (w.alloc (.cells Z16 44)) (z16.map (Value.float .f64)) 44
    rw [e1, ← Z16_list, ← id0] at this
    exact this
  · have := there_new (w.alloc (.cells Z16 44)) Z16 44 16 rfl
    rwa [e1] at this
theorem IdAt.step {wx w : World} {k : Nat} (h : IdAt wx w k) (hk : k < 4) : IdAt (wx.setCell ⟨w.heap.size + 1, 5 * k, none⟩ (.float .f64 4607182418800017408)) w (k + 1) :=
  ⟨by rw [← id_step k hk]; exact range_set h.r _, there_set h.t1 _ _, there_set h.t0 _ _, h.b.setCell (by simp) _⟩
theorem below_set16 {w wx : World} (h : Below w.heap.size w wx) (vs : List Value) : Below w.heap.size w (wx.setCells w.heap.size 0 vs) := below_setCells h (Nat.le_refl _) 0 vs
set_option maxRecDepth 100000 in
set_option maxHeartbeats 2000000 in
theorem k87 (w : World) : Calls Try.prog 34 #[] w fun e w' => e = .returned (.agg (idL.map (Value.float .f64)).toArray) ∧ Below w.heap.size w w' := by
  have S0 := Lib.hid (id_start w)
  go_enter Try.func34, Try.ntmps34
  go_wp2_with fail
  go_loopw [3] (fun i wx => ∃ k : Nat, k ≤ 4 ∧ i = .int .i64 k ∧ Hid (IdAt wx w k)) (fun i _ => 4 - (intOf i).toNat)
  case atStart => exact ⟨0, by omega, rfl, S0⟩
  case round =>
    obtain ⟨k, hk, rfl, hI⟩ := hrel
    clear S0
    by_cases hlt : k < 4
    · have hki : (k : Int) < 4 := by omega
      have hk5 : 5 * (k : Int) < 16 := by omega
      have hk0 : (0 : Int) ≤ 5 * (k : Int) := by omega
      have HLT := Lib.hid hlt
      have st := store1 hI.out.t1 (o := 5 * k) (by omega) 4607182418800017408
      have I2 := Lib.hid (hI.out.step hlt)
      clear hlt
      go_wp2
      go_roundw
      case rel => exact ⟨k + 1, by have := HLT.out; omega, by go_num, I2⟩
      case measure => have := HLT.out; simp [intOf]; omega
    · have hki : ¬ (k : Int) < 4 := by omega
      have hk4 : k = 4 := by omega
      subst hk4
      have RR := Lib.hid hI.out.r
      have E1 := Lib.hid (size80L idL rfl)
      have E2 := Lib.hid (size80A idL rfl)
      have T0 : Hid (wr.there w.heap.size 0 (idL.map (Value.float .f64)).toArray.size) := Lib.hid hI.out.t0
      have BB := Lib.hid (below_set16 hI.out.b (idL.map (Value.float .f64)))
      clear hlt hk hI
      go_wp2_with (first
        | (refine wpList_load_mid rfl 44 (.tmp 1) rfl (w.heap.size + 1) 0 rfl (idL.map (Value.float .f64)) _ RR.out Try.underlying44 rfl E1.out ?_)
        | (refine wpList_store_mid rfl 44 (.tmp 0) (.tmp 10) rfl w.heap.size 0 (idL.map (Value.float .f64)).toArray rfl rfl T0.out E2.out (one16 idL) ?_))
      refine bodyPost_ret (v := .agg (idL.map (Value.float .f64)).toArray) (ret_row Try.prog Try.results34 rfl (idL.map (Value.float .f64)) T0.out Try.underlying44 rfl E1.out) rfl ⟨rfl, BB.out⟩
end Go.Proofs.Ytedkbjimofiphaa

namespace Go.Proofs.Ytedkbjimofiphaa
open Go.RowKit Fl
theorem stored16 (w2 : World) (vs : List Value) : Below w2.heap.size w2 ((w2.alloc (.cells Z16 44)).setCells w2.heap.size 0 vs) := below_setCells ((Below.refl _ _).alloc (Nat.le_refl _) _) (Nat.le_refl _) 0 vs
end Go.Proofs.Ytedkbjimofiphaa

namespace Go.Proofs.Ytedkbjimofiphaa
open Go.RowKit Fl
end Go.Proofs.Ytedkbjimofiphaa

namespace Go.Proofs.Ytedkbjimofiphaa
open Go.RowKit Fl
end Go.Proofs.Ytedkbjimofiphaa
