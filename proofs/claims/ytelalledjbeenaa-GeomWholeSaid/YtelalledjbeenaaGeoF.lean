/- Both Meet: printed by geo5.py. -/
import Derived.Test.YtelalledjbeenaaMgGeoD
namespace Go.Proofs.Ytelalledjbeenaa
open Go.RowKit Fl

theorem RV_zero : RV 0 0 := ⟨by unfold U; decide, by decide⟩
def meetB (A0 A1 A2 A3 B0 B1 B2 B3 : Int) : Bool := fltP (maxP (loP A0 A2) (loP B0 B2)) (minP (hiP A0 A2) (hiP B0 B2)) && fltP (maxP (loP A1 A3) (loP B1 B3)) (minP (hiP A1 A3) (hiP B1 B3))
def MeetR (A0 A1 A2 A3 B0 B1 B2 B3 : Int) (e : Ending) : Prop := ∃ a b c d : Nat, e = .returned (.tuple #[.agg #[.float .f64 a, .float .f64 b, .float .f64 c, .float .f64 d], .bool (meetB A0 A1 A2 A3 B0 B1 B2 B3)]) ∧
  if meetB A0 A1 A2 A3 B0 B1 B2 B3 then RV a (maxP (loP A0 A2) (loP B0 B2)) ∧ RV b (maxP (loP A1 A3) (loP B1 B3)) ∧ RV c (opP .sub (minP (hiP A0 A2) (hiP B0 B2)) (maxP (loP A0 A2) (loP B0 B2))) ∧ RV d (opP .sub (minP (hiP A1 A3) (hiP B1 B3)) (maxP (loP A1 A3) (loP B1 B3))) else RV a 0 ∧ RV b 0 ∧ RV c 0 ∧ RV d 0
theorem ret_row2 (P : Program) {fn : Func} {p q : Tmp} {ty : TypeId} (h : fn.results = #[.cell p ty, .tmp q]) {tmps : Array Value} {b : Nat} (hp : tmps.getD p undef = .pointer (some ⟨b, 0, none⟩)) {W : World} (cs : List Value) {d : TypeDesc}
    (ht : W.there b 0 cs.length) (hu : P.underlying ty = some d) (hd : d.isRow = true) (hi : (P.info? ty).map (·.size) = some cs.length) :
    (results fn tmps).run P (W.setCells b 0 cs) = .ok (.tuple #[.agg cs.toArray, tmps.getD q undef]) (W.setCells b 0 cs) := by
  have hl := run_loadVar_mid (P := P) _ _ 0 ty cs _ (World.rangeAt_setCells_same W b 0 cs ht) hu hd hi
  have hp' : tmps[p]?.getD undef = .pointer (some ⟨b, 0, none⟩) := by simpa using hp
  simp [results, h, hp', asAddr, hl]

set_option maxRecDepth 100000 in
set_option maxHeartbeats 2000000 in
theorem k53 {a0 b0 a1 b1 a2 b2 a3 b3 : Nat} {A0 B0 A1 B1 A2 B2 A3 B3 : Int} (ha0 : RV a0 A0) (ha1 : RV a1 A1) (ha2 : RV a2 A2) (ha3 : RV a3 A3) (hb0 : RV b0 B0) (hb1 : RV b1 B1) (hb2 : RV b2 B2) (hb3 : RV b3 B3) (w : World) :
    Calls Try.prog 53 #[.agg #[.float .f64 a0, .float .f64 a1, .float .f64 a2, .float .f64 a3], .agg #[.float .f64 b0, .float .f64 b1, .float .f64 b2, .float .f64 b3]] w fun e w' => MeetR A0 A1 A2 A3 B0 B1 B2 B3 e ∧ Below w.heap.size w w' := by
  have HA := Lib.hid (And.intro ha0 (And.intro ha1 (And.intro ha2 ha3)))
  have HB := Lib.hid (And.intro hb0 (And.intro hb1 (And.intro hb2 hb3)))
  clear ha0 ha1 ha2 ha3 hb0 hb1 hb2 hb3
  go_enter Try.func53, Try.ntmps53
  go_wp2_with fail
  refine (k47 HA.out.1 HA.out.2.1 HA.out.2.2.1 HA.out.2.2.2 _).mono ?_
  rintro e w2 ⟨⟨x0, x1, x2, x3, rfl, hx⟩, hb⟩
  have E0 := two_entry w [.float .f64 a0, .float .f64 a1, .float .f64 a2, .float .f64 a3] [.float .f64 b0, .float .f64 b1, .float .f64 b2, .float .f64 b3] #[.float .f64 0, .float .f64 0, .float .f64 0, .float .f64 0] 58 58 58 4 rfl
  have W2 := Lib.hid (two_below E0 hb)
  have HX := Lib.hid hx
  obtain ⟨s0, s1, s2, s3⟩ := store4n w2 61
  clear hx hb E0
  go_upto_region 2 with fail
  refine wp_gen (fun wx => Hid (Two wx w [.float .f64 a0, .float .f64 a1, .float .f64 a2, .float .f64 a3] [.float .f64 b0, .float .f64 b1, .float .f64 b2, .float .f64 b3] 4 ∧ wx.rangeAt w2.heap.size 0 [.float .f64 x0, .float .f64 x1, .float .f64 x2, .float .f64 x3] ∧ w2.heap.size < wx.heap.size)) (Lib.hid (two_stored W2.out x0 x1 x2 x3)) ?_
  intro w3 hW
  have L2 := Lib.hid W2.out.lt
  clear W2 s0 s1 s2 s3
  generalize w2.heap.size = g1 at *
  obtain ⟨y0, y1, y2, y3⟩ := cells4 hW.out.1.r2
  go_wp2_with fail
  refine (k47 HB.out.1 HB.out.2.1 HB.out.2.2.1 HB.out.2.2.2 _).mono ?_
  rintro e w4 ⟨⟨z0, z1, z2, z3, rfl, hz⟩, hb⟩
  have W4 := Lib.hid (And.intro (two_below hW.out.1 hb) (range_below hW.out.2.1 hb hW.out.2.2))
  have HZ := Lib.hid hz
  have L4 := Lib.hid (Nat.lt_of_lt_of_le hW.out.2.2 hb.size)
  obtain ⟨s0, s1, s2, s3⟩ := store4n w4 61
  clear hz hb hW y0 y1 y2 y3
  go_upto_region 3 with fail
  refine wp_gen (fun wx => Hid (Two wx w [.float .f64 a0, .float .f64 a1, .float .f64 a2, .float .f64 a3] [.float .f64 b0, .float .f64 b1, .float .f64 b2, .float .f64 b3] 4 ∧ wx.rangeAt g1 0 [.float .f64 x0, .float .f64 x1, .float .f64 x2, .float .f64 x3] ∧ wx.rangeAt w4.heap.size 0 [.float .f64 z0, .float .f64 z1, .float .f64 z2, .float .f64 z3] ∧ w4.heap.size < wx.heap.size)) (Lib.hid (two_stored2 W4.out.1 W4.out.2 L4.out z0 z1 z2 z3)) ?_
  intro wc hW
  clear W4 s0 s1 s2 s3
  have L5 := Lib.hid L4.out
  clear L4
  generalize w4.heap.size = g2 at *
  obtain ⟨p0, p1, p2, p3⟩ := cells4 hW.out.2.1
  obtain ⟨t0, t1, t2, t3⟩ := cells4 hW.out.2.2.1
  go_wp2_with fail
  refine (k111 HX.out.1 HZ.out.1 _).mono ?_
  rintro e w' ⟨⟨l, rfl, hr⟩, rfl⟩
  have HL := Lib.hid hr
  clear hr
  go_wp2_with fail
  refine (k111 HX.out.2.1 HZ.out.2.1 _).mono ?_
  rintro e w' ⟨⟨t, rfl, hr⟩, rfl⟩
  have HT := Lib.hid hr
  clear hr
  go_wp2_with fail
  refine (k110 HX.out.2.2.1 HZ.out.2.2.1 _).mono ?_
  rintro e w' ⟨⟨r, rfl, hr⟩, rfl⟩
  have HR := Lib.hid hr
  clear hr
  go_wp2_with fail
  refine (k110 HX.out.2.2.2 HZ.out.2.2.2 _).mono ?_
  rintro e w' ⟨⟨u, rfl, hr⟩, rfl⟩
  have HU := Lib.hid hr
  clear hr
  have TQ := Lib.hid (And.intro hW.out.1.t hW.out.1.lt)
  have BQ := Lib.hid hW.out.1.b
  clear hW p0 p1 p2 p3 t0 t1 t2 t3 L2 L5
  have e0 := RV.lt HL.out HR.out
  have e1 := RV.lt HT.out HU.out
  cases h0 : fltP (maxP (loP A0 A2) (loP B0 B2)) (minP (hiP A0 A2) (hiP B0 B2))
  · rw [h0] at e0
    have K0 := Lib.hid h0
    clear h0
    have HM : Hid (meetB A0 A1 A2 A3 B0 B1 B2 B3 = false) := Lib.hid (by unfold meetB; rw [K0.out]; rfl)
    obtain ⟨s0, s1, s2, s3⟩ := store4 TQ.out.1
    go_wp2
    refine bodyPost_ret (v := .tuple #[.agg #[.float .f64 0, .float .f64 0, .float .f64 0, .float .f64 0], .bool false]) (ret_row2 Try.prog Try.results53 rfl [_, _, _, _] TQ.out.1 Try.underlying58 rfl size58) rfl ?_
    exact ⟨⟨0, 0, 0, 0, by rw [HM.out], by rw [HM.out]; exact ⟨RV_zero, RV_zero, RV_zero, RV_zero⟩⟩, below_setCells BQ.out (by omega) 0 [_, _, _, _]⟩
  · rw [h0] at e0
    have K0 := Lib.hid h0
    clear h0
    cases h1 : fltP (maxP (loP A1 A3) (loP B1 B3)) (minP (hiP A1 A3) (hiP B1 B3))
    · rw [h1] at e1
      have K1 := Lib.hid h1
      clear h1
      have HM : Hid (meetB A0 A1 A2 A3 B0 B1 B2 B3 = false) := Lib.hid (by unfold meetB; rw [K0.out, K1.out]; rfl)
      obtain ⟨s0, s1, s2, s3⟩ := store4 TQ.out.1
      go_wp2
      refine bodyPost_ret (v := .tuple #[.agg #[.float .f64 0, .float .f64 0, .float .f64 0, .float .f64 0], .bool false]) (ret_row2 Try.prog Try.results53 rfl [_, _, _, _] TQ.out.1 Try.underlying58 rfl size58) rfl ?_
      exact ⟨⟨0, 0, 0, 0, by rw [HM.out], by rw [HM.out]; exact ⟨RV_zero, RV_zero, RV_zero, RV_zero⟩⟩, below_setCells BQ.out (by omega) 0 [_, _, _, _]⟩
    · rw [h1] at e1
      have K1 := Lib.hid h1
      clear h1
      have HM : Hid (meetB A0 A1 A2 A3 B0 B1 B2 B3 = true) := Lib.hid (by unfold meetB; rw [K0.out, K1.out]; rfl)
      go_wp2_with fail
      refine (k149 HL.out HT.out HR.out HU.out _).mono ?_
      rintro e w8 ⟨⟨z0, z1, z2, z3, rfl, hz⟩, hb⟩
      have T8 := Lib.hid (there_below TQ.out.1 hb TQ.out.2)
      have B8 := Lib.hid (below_trans BQ.out hb)
      have HZ := Lib.hid hz
      obtain ⟨s0, s1, s2, s3⟩ := store4 T8.out
      clear hz hb e0 e1
      go_wp2
      refine bodyPost_ret (v := .tuple #[.agg #[_, _, _, _], .bool true]) (ret_row2 Try.prog Try.results53 rfl [_, _, _, _] T8.out Try.underlying58 rfl size58) rfl ?_
      exact ⟨⟨_, _, _, _, by rw [HM.out], by rw [HM.out]; exact HZ.out⟩, below_setCells B8.out (by omega) 0 [_, _, _, _]⟩
set_option maxRecDepth 100000 in
set_option maxHeartbeats 2000000 in
theorem k52 {a0 b0 a1 b1 a2 b2 a3 b3 : Nat} {A0 B0 A1 B1 A2 B2 A3 B3 : Int} (ha0 : RV a0 A0) (ha1 : RV a1 A1) (ha2 : RV a2 A2) (ha3 : RV a3 A3) (hb0 : RV b0 B0) (hb1 : RV b1 B1) (hb2 : RV b2 B2) (hb3 : RV b3 B3) (w : World) :
    Calls Try.prog 52 #[.agg #[.float .f64 a0, .float .f64 a1, .float .f64 a2, .float .f64 a3], .agg #[.float .f64 b0, .float .f64 b1, .float .f64 b2, .float .f64 b3]] w fun e w' => MeetR A0 A1 A2 A3 B0 B1 B2 B3 e ∧ Below w.heap.size w w' := by
  have HA := Lib.hid (And.intro ha0 (And.intro ha1 (And.intro ha2 ha3)))
  have HB := Lib.hid (And.intro hb0 (And.intro hb1 (And.intro hb2 hb3)))
  clear ha0 ha1 ha2 ha3 hb0 hb1 hb2 hb3
  go_enter Try.func52, Try.ntmps52
  go_wp2_with fail
  refine wp_gen (fun wx => Hid (Two wx w [.float .f64 a0, .float .f64 a1, .float .f64 a2, .float .f64 a3] [.float .f64 b0, .float .f64 b1, .float .f64 b2, .float .f64 b3] 4)) (Lib.hid (two_entry w [.float .f64 a0, .float .f64 a1, .float .f64 a2, .float .f64 a3] [.float .f64 b0, .float .f64 b1, .float .f64 b2, .float .f64 b3] _ 58 58 58 4 rfl)) ?_
  intro wc hW
  have ra : ∀ w', Below wc.heap.size wc w' → w'.rangeAt w.heap.size 0 [.float .f64 a0, .float .f64 a1, .float .f64 a2, .float .f64 a3] := fun w' hw => range_below hW.out.r1 hw (by have := hW.out.lt; omega)
  have rb : ∀ w', Below wc.heap.size wc w' → w'.rangeAt (w.heap.size + 1) 0 [.float .f64 b0, .float .f64 b1, .float .f64 b2, .float .f64 b3] := fun w' hw => range_below hW.out.r2 hw (by have := hW.out.lt; omega)
  refine wp_region_rel 12 (fun w' => Below wc.heap.size wc w') GEO (by kernel_rfl) (by kernel_rfl) ((Below.refl _ _).drew) ?_
  simp only [List.take_succ_cons, List.take_zero, List.drop_succ_cons, List.drop_zero]
  refine rel_load_row (w.heap.size) 0 [.float .f64 a0, .float .f64 a1, .float .f64 a2, .float .f64 a3] _ rfl rfl ra Try.underlying58 rfl size58 ?_
  simp only [Act.put, List.setIfInBounds_toArray, List.set_cons_succ, List.set_cons_zero]
  refine rel_call (f := 48) (args := #[.agg #[.float .f64 a0, .float .f64 a1, .float .f64 a2, .float .f64 a3]]) rfl (fun w' hw => by go_simp) (fun w' hw => g48 HA.out.1 HA.out.2.1 HA.out.2.2.1 HA.out.2.2.2 hw) (fun v hv => ?_)
  obtain ⟨x1, rfl, hx1⟩ := G48 hv HA.out.1 HA.out.2.1 HA.out.2.2.1 HA.out.2.2.2
  simp only [Act.put, List.setIfInBounds_toArray, List.set_cons_succ, List.set_cons_zero]
  refine rel_load_row (w.heap.size + 1) 0 [.float .f64 b0, .float .f64 b1, .float .f64 b2, .float .f64 b3] _ rfl rfl rb Try.underlying58 rfl size58 ?_
  simp only [Act.put, List.setIfInBounds_toArray, List.set_cons_succ, List.set_cons_zero]
  refine rel_call (f := 48) (args := #[.agg #[.float .f64 b0, .float .f64 b1, .float .f64 b2, .float .f64 b3]]) rfl (fun w' hw => by go_simp) (fun w' hw => g48 HB.out.1 HB.out.2.1 HB.out.2.2.1 HB.out.2.2.2 hw) (fun v hv => ?_)
  obtain ⟨x2, rfl, hx2⟩ := G48 hv HB.out.1 HB.out.2.1 HB.out.2.2.1 HB.out.2.2.2
  simp only [Act.put, List.setIfInBounds_toArray, List.set_cons_succ, List.set_cons_zero]
  refine rel_call (f := 84) (args := #[.float .f64 x1, .float .f64 x2]) rfl (fun w' hw => by go_simp) (fun w' hw => g84 hx1 hx2 hw) (fun v hv => ?_)
  obtain ⟨x3, rfl, hx3⟩ := G84 hv hx1 hx2
  simp only [Act.put, List.setIfInBounds_toArray, List.set_cons_succ, List.set_cons_zero]
  refine rel_load_row (w.heap.size) 0 [.float .f64 a0, .float .f64 a1, .float .f64 a2, .float .f64 a3] _ rfl rfl ra Try.underlying58 rfl size58 ?_
  simp only [Act.put, List.setIfInBounds_toArray, List.set_cons_succ, List.set_cons_zero]
  refine rel_call (f := 49) (args := #[.agg #[.float .f64 a0, .float .f64 a1, .float .f64 a2, .float .f64 a3]]) rfl (fun w' hw => by go_simp) (fun w' hw => g49 HA.out.1 HA.out.2.1 HA.out.2.2.1 HA.out.2.2.2 hw) (fun v hv => ?_)
  obtain ⟨x4, rfl, hx4⟩ := G49 hv HA.out.1 HA.out.2.1 HA.out.2.2.1 HA.out.2.2.2
  simp only [Act.put, List.setIfInBounds_toArray, List.set_cons_succ, List.set_cons_zero]
  refine rel_load_row (w.heap.size + 1) 0 [.float .f64 b0, .float .f64 b1, .float .f64 b2, .float .f64 b3] _ rfl rfl rb Try.underlying58 rfl size58 ?_
  simp only [Act.put, List.setIfInBounds_toArray, List.set_cons_succ, List.set_cons_zero]
  refine rel_call (f := 49) (args := #[.agg #[.float .f64 b0, .float .f64 b1, .float .f64 b2, .float .f64 b3]]) rfl (fun w' hw => by go_simp) (fun w' hw => g49 HB.out.1 HB.out.2.1 HB.out.2.2.1 HB.out.2.2.2 hw) (fun v hv => ?_)
  obtain ⟨x5, rfl, hx5⟩ := G49 hv HB.out.1 HB.out.2.1 HB.out.2.2.1 HB.out.2.2.2
  simp only [Act.put, List.setIfInBounds_toArray, List.set_cons_succ, List.set_cons_zero]
  refine rel_call (f := 84) (args := #[.float .f64 x4, .float .f64 x5]) rfl (fun w' hw => by go_simp) (fun w' hw => g84 hx4 hx5 hw) (fun v hv => ?_)
  obtain ⟨x6, rfl, hx6⟩ := G84 hv hx4 hx5
  simp only [Act.put, List.setIfInBounds_toArray, List.set_cons_succ, List.set_cons_zero]
  refine rel_assign (v := .float .f64 x3) rfl rfl ?_
  simp only [Act.put, List.setIfInBounds_toArray, List.set_cons_succ, List.set_cons_zero]
  refine rel_assign (v := .float .f64 x6) rfl rfl ?_
  simp only [Act.put, List.setIfInBounds_toArray, List.set_cons_succ, List.set_cons_zero]
  refine rel_nil ?_
  intro w3 hB3
  have hW := Lib.hid (two_below hW.out hB3)
  have HL := Lib.hid hx3
  have HT := Lib.hid hx6
  clear hB3 ra rb
  go_wp2_with fail
  have ra : ∀ w', Below w3.heap.size w3 w' → w'.rangeAt w.heap.size 0 [.float .f64 a0, .float .f64 a1, .float .f64 a2, .float .f64 a3] := fun w' hw => range_below hW.out.r1 hw (by have := hW.out.lt; omega)
  have rb : ∀ w', Below w3.heap.size w3 w' → w'.rangeAt (w.heap.size + 1) 0 [.float .f64 b0, .float .f64 b1, .float .f64 b2, .float .f64 b3] := fun w' hw => range_below hW.out.r2 hw (by have := hW.out.lt; omega)
  refine wp_region_rel 12 (fun w' => Below w3.heap.size w3 w') GEO (by kernel_rfl) (by kernel_rfl) ((Below.refl _ _).drew) ?_
  simp only [List.take_succ_cons, List.take_zero, List.drop_succ_cons, List.drop_zero]
  refine rel_load_row (w.heap.size) 0 [.float .f64 a0, .float .f64 a1, .float .f64 a2, .float .f64 a3] _ rfl rfl ra Try.underlying58 rfl size58 ?_
  simp only [Act.put, List.setIfInBounds_toArray, List.set_cons_succ, List.set_cons_zero]
  refine rel_call (f := 50) (args := #[.agg #[.float .f64 a0, .float .f64 a1, .float .f64 a2, .float .f64 a3]]) rfl (fun w' hw => by go_simp) (fun w' hw => g50 HA.out.1 HA.out.2.1 HA.out.2.2.1 HA.out.2.2.2 hw) (fun v hv => ?_)
  obtain ⟨y1, rfl, hy1⟩ := G50 hv HA.out.1 HA.out.2.1 HA.out.2.2.1 HA.out.2.2.2
  simp only [Act.put, List.setIfInBounds_toArray, List.set_cons_succ, List.set_cons_zero]
  refine rel_load_row (w.heap.size + 1) 0 [.float .f64 b0, .float .f64 b1, .float .f64 b2, .float .f64 b3] _ rfl rfl rb Try.underlying58 rfl size58 ?_
  simp only [Act.put, List.setIfInBounds_toArray, List.set_cons_succ, List.set_cons_zero]
  refine rel_call (f := 50) (args := #[.agg #[.float .f64 b0, .float .f64 b1, .float .f64 b2, .float .f64 b3]]) rfl (fun w' hw => by go_simp) (fun w' hw => g50 HB.out.1 HB.out.2.1 HB.out.2.2.1 HB.out.2.2.2 hw) (fun v hv => ?_)
  obtain ⟨y2, rfl, hy2⟩ := G50 hv HB.out.1 HB.out.2.1 HB.out.2.2.1 HB.out.2.2.2
  simp only [Act.put, List.setIfInBounds_toArray, List.set_cons_succ, List.set_cons_zero]
  refine rel_call (f := 83) (args := #[.float .f64 y1, .float .f64 y2]) rfl (fun w' hw => by go_simp) (fun w' hw => g83 hy1 hy2 hw) (fun v hv => ?_)
  obtain ⟨y3, rfl, hy3⟩ := G83 hv hy1 hy2
  simp only [Act.put, List.setIfInBounds_toArray, List.set_cons_succ, List.set_cons_zero]
  refine rel_load_row (w.heap.size) 0 [.float .f64 a0, .float .f64 a1, .float .f64 a2, .float .f64 a3] _ rfl rfl ra Try.underlying58 rfl size58 ?_
  simp only [Act.put, List.setIfInBounds_toArray, List.set_cons_succ, List.set_cons_zero]
  refine rel_call (f := 51) (args := #[.agg #[.float .f64 a0, .float .f64 a1, .float .f64 a2, .float .f64 a3]]) rfl (fun w' hw => by go_simp) (fun w' hw => g51 HA.out.1 HA.out.2.1 HA.out.2.2.1 HA.out.2.2.2 hw) (fun v hv => ?_)
  obtain ⟨y4, rfl, hy4⟩ := G51 hv HA.out.1 HA.out.2.1 HA.out.2.2.1 HA.out.2.2.2
  simp only [Act.put, List.setIfInBounds_toArray, List.set_cons_succ, List.set_cons_zero]
  refine rel_load_row (w.heap.size + 1) 0 [.float .f64 b0, .float .f64 b1, .float .f64 b2, .float .f64 b3] _ rfl rfl rb Try.underlying58 rfl size58 ?_
  simp only [Act.put, List.setIfInBounds_toArray, List.set_cons_succ, List.set_cons_zero]
  refine rel_call (f := 51) (args := #[.agg #[.float .f64 b0, .float .f64 b1, .float .f64 b2, .float .f64 b3]]) rfl (fun w' hw => by go_simp) (fun w' hw => g51 HB.out.1 HB.out.2.1 HB.out.2.2.1 HB.out.2.2.2 hw) (fun v hv => ?_)
  obtain ⟨y5, rfl, hy5⟩ := G51 hv HB.out.1 HB.out.2.1 HB.out.2.2.1 HB.out.2.2.2
  simp only [Act.put, List.setIfInBounds_toArray, List.set_cons_succ, List.set_cons_zero]
  refine rel_call (f := 83) (args := #[.float .f64 y4, .float .f64 y5]) rfl (fun w' hw => by go_simp) (fun w' hw => g83 hy4 hy5 hw) (fun v hv => ?_)
  obtain ⟨y6, rfl, hy6⟩ := G83 hv hy4 hy5
  simp only [Act.put, List.setIfInBounds_toArray, List.set_cons_succ, List.set_cons_zero]
  refine rel_assign (v := .float .f64 y3) rfl rfl ?_
  simp only [Act.put, List.setIfInBounds_toArray, List.set_cons_succ, List.set_cons_zero]
  refine rel_assign (v := .float .f64 y6) rfl rfl ?_
  simp only [Act.put, List.setIfInBounds_toArray, List.set_cons_succ, List.set_cons_zero]
  refine rel_nil ?_
  intro w5 hB5
  have hW := Lib.hid (two_below hW.out hB5)
  have HR := Lib.hid hy3
  have HU := Lib.hid hy6
  have TQ := Lib.hid (And.intro hW.out.t hW.out.lt)
  have BQ := Lib.hid hW.out.b
  clear hB5 ra rb hW
  have e0 := RV.lt HL.out HR.out
  have e1 := RV.lt HT.out HU.out
  cases h0 : fltP (maxP (loP A0 A2) (loP B0 B2)) (minP (hiP A0 A2) (hiP B0 B2))
  · rw [h0] at e0
    have K0 := Lib.hid h0
    clear h0
    have HM : Hid (meetB A0 A1 A2 A3 B0 B1 B2 B3 = false) := Lib.hid (by unfold meetB; rw [K0.out]; rfl)
    obtain ⟨s0, s1, s2, s3⟩ := store4 TQ.out.1
    go_wp2
    refine bodyPost_ret (v := .tuple #[.agg #[.float .f64 0, .float .f64 0, .float .f64 0, .float .f64 0], .bool false]) (ret_row2 Try.prog Try.results52 rfl [_, _, _, _] TQ.out.1 Try.underlying58 rfl size58) rfl ?_
    exact ⟨⟨0, 0, 0, 0, by rw [HM.out], by rw [HM.out]; exact ⟨RV_zero, RV_zero, RV_zero, RV_zero⟩⟩, below_setCells BQ.out (by omega) 0 [_, _, _, _]⟩
  · rw [h0] at e0
    have K0 := Lib.hid h0
    clear h0
    cases h1 : fltP (maxP (loP A1 A3) (loP B1 B3)) (minP (hiP A1 A3) (hiP B1 B3))
    · rw [h1] at e1
      have K1 := Lib.hid h1
      clear h1
      have HM : Hid (meetB A0 A1 A2 A3 B0 B1 B2 B3 = false) := Lib.hid (by unfold meetB; rw [K0.out, K1.out]; rfl)
      obtain ⟨s0, s1, s2, s3⟩ := store4 TQ.out.1
      go_wp2
      refine bodyPost_ret (v := .tuple #[.agg #[.float .f64 0, .float .f64 0, .float .f64 0, .float .f64 0], .bool false]) (ret_row2 Try.prog Try.results52 rfl [_, _, _, _] TQ.out.1 Try.underlying58 rfl size58) rfl ?_
      exact ⟨⟨0, 0, 0, 0, by rw [HM.out], by rw [HM.out]; exact ⟨RV_zero, RV_zero, RV_zero, RV_zero⟩⟩, below_setCells BQ.out (by omega) 0 [_, _, _, _]⟩
    · rw [h1] at e1
      have K1 := Lib.hid h1
      clear h1
      have HM : Hid (meetB A0 A1 A2 A3 B0 B1 B2 B3 = true) := Lib.hid (by unfold meetB; rw [K0.out, K1.out]; rfl)
      go_wp2_with fail
      refine (k148 HL.out HT.out HR.out HU.out _).mono ?_
      rintro e w8 ⟨⟨z0, z1, z2, z3, rfl, hz⟩, hb⟩
      have T8 := Lib.hid (there_below TQ.out.1 hb TQ.out.2)
      have B8 := Lib.hid (below_trans BQ.out hb)
      have HZ := Lib.hid hz
      obtain ⟨s0, s1, s2, s3⟩ := store4 T8.out
      clear hz hb e0 e1
      go_wp2
      refine bodyPost_ret (v := .tuple #[.agg #[_, _, _, _], .bool true]) (ret_row2 Try.prog Try.results52 rfl [_, _, _, _] T8.out Try.underlying58 rfl size58) rfl ?_
      exact ⟨⟨_, _, _, _, by rw [HM.out], by rw [HM.out]; exact HZ.out⟩, below_setCells B8.out (by omega) 0 [_, _, _, _]⟩
end Go.Proofs.Ytelalledjbeenaa
