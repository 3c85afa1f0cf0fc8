/- Invert of galleyref15, where a matrix can be undone: printed by geo23.py. -/
import Derived.Test.YtelalledjbeenaaInvS
namespace Go.Proofs.Ytelalledjbeenaa
open Go.RowKit Fl

structure JW (wx w : World) (A : List Value) (g b8 b9 : Nat) (ds es : List Value) : Prop where
  i : IW wx w A g z16
  d : wx.rangeAt b8 0 ds
  e : wx.rangeAt b9 0 es
  l : g < b8 ∧ g < b9 ∧ b8 < wx.heap.size ∧ b9 < wx.heap.size
set_option maxRecDepth 100000 in
set_option maxHeartbeats 4000000 in
theorem k98y {ms : List Nat} (hm : MU ms) (hok : invOk (detP (mp ms)) = true) (w : World) :
    Calls Try.prog 98 #[.agg (ms.map (Value.float .f64)).toArray] w fun e w' => (∃ os : List Nat, e = .returned (.tuple #[.agg (os.map (Value.float .f64)).toArray, .bool true]) ∧ MU os ∧ ∀ j, j < 16 → mp os j = invP (mp ms) j) ∧ Below w.heap.size w w' := by
  have HM := Lib.hid hm
  have HK := Lib.hid hok
  clear hm hok
  go_enter Try.func98, Try.ntmps98
  go_upto_region 1 with fail
  refine wp_gen (fun wx => Hid (One wx w (ms.map (Value.float .f64)) 16)) (Lib.hid (one_entry w (ms.map (Value.float .f64)) _ 80 80 16 rfl)) ?_
  intro wc hW
  have RR := Lib.hid hW.out.r1
  have E0 := Lib.hid (size80L ms HM.out.1)
  go_wp2_with (refine wpList_load_mid rfl 80 (.tmp 1) rfl w.heap.size 0 rfl (ms.map (Value.float .f64)) _ RR.out Try.underlying80 rfl E0.out ?_)
  refine (k104 HM.out _).mono ?_
  rintro e w2 ⟨⟨x, rfl, hx⟩, hb⟩
  have W2 := Lib.hid (one_below hW.out hb)
  have HX := Lib.hid hx
  have hfin : fin x = true := by
    have h1 := HK.out
    unfold invOk at h1
    rw [← HX.out.2, ← fin_place x] at h1
    cases h2 : fin x
    · rw [h2] at h1; simp at h1
    · rfl
  have HF := Lib.hid hfin
  have hnz : (FloatKind.f64.format.order x 0 == some Ordering.eq) = false := (RV.eq_ HX.out rv0).trans (by
    have h1 := HK.out
    unfold invOk at h1
    cases h2 : feqP (detP (mp ms)) 0
    · rfl
    · rw [h2] at h1; simp at h1)
  clear hb hx hW RR hfin
  go_wp2_with fail
  refine (c59 x _ HX.out.1).mono ?_
  rintro e w3 ⟨rfl, rfl⟩
  rw [HF.out]
  have W3 := Lib.hid (show IW (w2.alloc (.cells Z16 80)) w (ms.map (Value.float .f64)) w2.heap.size z16 from ⟨one_below W2.out (alloc_below _ _), range_new w2 (z16.map (Value.float .f64)) 80, there_new w2 Z16 80 16 rfl, W2.out.lt, by simp⟩)
  clear W2
  go_upto_region 10 with fail
  clear hnz
  refine wp_gen (fun wx => Hid (IW wx w (ms.map (Value.float .f64)) w2.heap.size z16)) W3 ?_
  intro wa hW
  clear W3
  generalize w2.heap.size = g at *
  have RR := Lib.hid hW.out.o.r1
  go_wp2_with (refine wpList_load_mid rfl 80 (.tmp 1) rfl w.heap.size 0 rfl (ms.map (Value.float .f64)) _ RR.out Try.underlying80 rfl E0.out ?_)
  refine (k160 HM.out _).mono ?_
  rintro e w2 ⟨⟨ds, es, rfl, hds, hes⟩, hb⟩
  have hd6 := hds.1
  have he6 := hes.1
  have TR := two_rows w2 ds es hd6 he6
  have I2 := iw_below hW.out hb
  have E1 := Lib.hid (size152A ds hd6)
  have E2 := Lib.hid (size152A es he6)
  have T1 := Lib.hid (thereA TR.1 hd6)
  have T2 := Lib.hid (thereA TR.2.1 he6)
  have WF := Lib.hid (show JW ((((w2.alloc (.cells Z6v 152)).alloc (.cells Z6v 152)).setCells w2.heap.size 0 (ds.map (Value.float .f64))).setCells (w2.heap.size + 1) 0 (es.map (Value.float .f64))) w (ms.map (Value.float .f64)) g w2.heap.size (w2.heap.size + 1) (ds.map (Value.float .f64)) (es.map (Value.float .f64)) from
    ⟨iw_below I2 TR.2.2.2.2, TR.2.2.1, TR.2.2.2.1, I2.l.2, Nat.lt_succ_of_lt I2.l.2, by rw [size_setCells, size_setCells]; simp <;> omega, by rw [size_setCells, size_setCells]; simp <;> omega⟩)
  have HDS := Lib.hid (And.intro hds hes)
  clear TR hb I2 RR hd6 he6 hW hds hes
  go_upto_region 11 with (first
    | (refine wpList_store_mid rfl 152 (.tmp 8) (.tmp 32) rfl w2.heap.size 0 (ds.map (Value.float .f64)).toArray rfl rfl T1.out E1.out (one16 ds) ?_)
    | (refine wpList_store_mid rfl 152 (.tmp 9) (.tmp 33) rfl (w2.heap.size + 1) 0 (es.map (Value.float .f64)).toArray rfl rfl T2.out E2.out (one16 es) ?_))
  refine wp_gen (fun wx => Hid (JW wx w (ms.map (Value.float .f64)) g w2.heap.size (w2.heap.size + 1) (ds.map (Value.float .f64)) (es.map (Value.float .f64)))) WF ?_
  intro wd hW
  clear WF T1 T2 E1 E2
  generalize w2.heap.size + 1 = b9 at *
  generalize w2.heap.size = b8 at *
  obtain ⟨m0, c0, r0⟩ := HM.out.get (j := 0) (by decide)
  have C0 := Lib.hid (map_get c0)
  have R0 := Lib.hid r0
  clear c0 r0
  obtain ⟨m1, c1, r1⟩ := HM.out.get (j := 1) (by decide)
  have C1 := Lib.hid (map_get c1)
  have R1 := Lib.hid r1
  clear c1 r1
  obtain ⟨m2, c2, r2⟩ := HM.out.get (j := 2) (by decide)
  have C2 := Lib.hid (map_get c2)
  have R2 := Lib.hid r2
  clear c2 r2
  obtain ⟨m3, c3, r3⟩ := HM.out.get (j := 3) (by decide)
  have C3 := Lib.hid (map_get c3)
  have R3 := Lib.hid r3
  clear c3 r3
  obtain ⟨m4, c4, r4⟩ := HM.out.get (j := 4) (by decide)
  have C4 := Lib.hid (map_get c4)
  have R4 := Lib.hid r4
  clear c4 r4
  obtain ⟨m5, c5, r5⟩ := HM.out.get (j := 5) (by decide)
  have C5 := Lib.hid (map_get c5)
  have R5 := Lib.hid r5
  clear c5 r5
  obtain ⟨m6, c6, r6⟩ := HM.out.get (j := 6) (by decide)
  have C6 := Lib.hid (map_get c6)
  have R6 := Lib.hid r6
  clear c6 r6
  obtain ⟨m7, c7, r7⟩ := HM.out.get (j := 7) (by decide)
  have C7 := Lib.hid (map_get c7)
  have R7 := Lib.hid r7
  clear c7 r7
  obtain ⟨m8, c8, r8⟩ := HM.out.get (j := 8) (by decide)
  have C8 := Lib.hid (map_get c8)
  have R8 := Lib.hid r8
  clear c8 r8
  obtain ⟨m9, c9, r9⟩ := HM.out.get (j := 9) (by decide)
  have C9 := Lib.hid (map_get c9)
  have R9 := Lib.hid r9
  clear c9 r9
  obtain ⟨m10, c10, r10⟩ := HM.out.get (j := 10) (by decide)
  have C10 := Lib.hid (map_get c10)
  have R10 := Lib.hid r10
  clear c10 r10
  obtain ⟨m11, c11, r11⟩ := HM.out.get (j := 11) (by decide)
  have C11 := Lib.hid (map_get c11)
  have R11 := Lib.hid r11
  clear c11 r11
  obtain ⟨m12, c12, r12⟩ := HM.out.get (j := 12) (by decide)
  have C12 := Lib.hid (map_get c12)
  have R12 := Lib.hid r12
  clear c12 r12
  obtain ⟨m13, c13, r13⟩ := HM.out.get (j := 13) (by decide)
  have C13 := Lib.hid (map_get c13)
  have R13 := Lib.hid r13
  clear c13 r13
  obtain ⟨m14, c14, r14⟩ := HM.out.get (j := 14) (by decide)
  have C14 := Lib.hid (map_get c14)
  have R14 := Lib.hid r14
  clear c14 r14
  obtain ⟨m15, c15, r15⟩ := HM.out.get (j := 15) (by decide)
  have C15 := Lib.hid (map_get c15)
  have R15 := Lib.hid r15
  clear c15 r15
  have hds := HDS.out.1
  have hes := HDS.out.2
  clear HDS
  obtain ⟨d0, d1, d2, d3, d4, d5, rfl⟩ := six hds.1
  obtain ⟨e0, e1, e2, e3, e4, e5, rfl⟩ := six hes.1
  have Q0 := Lib.hid (show RV d0 (minors0 (mp ms) 0) from hds.2 0 (by decide))
  have T0 := Lib.hid (show RV e0 (minors8 (mp ms) 0) from hes.2 0 (by decide))
  have Q1 := Lib.hid (show RV d1 (minors0 (mp ms) 1) from hds.2 1 (by decide))
  have T1 := Lib.hid (show RV e1 (minors8 (mp ms) 1) from hes.2 1 (by decide))
  have Q2 := Lib.hid (show RV d2 (minors0 (mp ms) 2) from hds.2 2 (by decide))
  have T2 := Lib.hid (show RV e2 (minors8 (mp ms) 2) from hes.2 2 (by decide))
  have Q3 := Lib.hid (show RV d3 (minors0 (mp ms) 3) from hds.2 3 (by decide))
  have T3 := Lib.hid (show RV e3 (minors8 (mp ms) 3) from hes.2 3 (by decide))
  have Q4 := Lib.hid (show RV d4 (minors0 (mp ms) 4) from hds.2 4 (by decide))
  have T4 := Lib.hid (show RV e4 (minors8 (mp ms) 4) from hes.2 4 (by decide))
  have Q5 := Lib.hid (show RV d5 (minors0 (mp ms) 5) from hds.2 5 (by decide))
  have T5 := Lib.hid (show RV e5 (minors8 (mp ms) 5) from hes.2 5 (by decide))
  clear hds hes
  have ra : ∀ w', Below wd.heap.size wd w' → w'.rangeAt w.heap.size 0 (ms.map (Value.float .f64)) := fun w' hw => range_below hW.out.i.o.r1 hw (by have := hW.out.i.o.lt; omega)
  have rd : ∀ w', Below wd.heap.size wd w' → w'.rangeAt b8 0 ([d0, d1, d2, d3, d4, d5].map (Value.float .f64)) := fun w' hw => range_below hW.out.d hw hW.out.l.2.2.1
  have re : ∀ w', Below wd.heap.size wd w' → w'.rangeAt b9 0 ([e0, e1, e2, e3, e4, e5].map (Value.float .f64)) := fun w' hw => range_below hW.out.e hw hW.out.l.2.2.2
  refine RB.wp_region_alloc 209 (RB.D1 9999 16) GInv (by kernel_rfl) (fast_relB (by kernel_rfl)) (fun t n h => by rcases RB.D1_or h with rfl; rfl) ?_
  simp only [List.append_eq, List.cons_append, List.nil_append, List.take_succ_cons, List.take_zero, List.drop_succ_cons, List.drop_zero]
  generalize hOPS : List.toArray _ = OPS
  clear hOPS
  refine rb_gen (fun a => a.tmps.size = 255 ∧ a.defers = [] ∧ a.tmps.getD 1 undef = .pointer (some ⟨w.heap.size, 0, none⟩) ∧ a.tmps.getD 2 undef = .pointer (some ⟨w.heap.size + 1, 0, none⟩) ∧ a.tmps.getD 4 undef = .float .f64 x ∧ a.tmps.getD 6 undef = .pointer (some ⟨g, 0, none⟩) ∧ a.tmps.getD 8 undef = .pointer (some ⟨b8, 0, none⟩) ∧ a.tmps.getD 9 undef = .pointer (some ⟨b9, 0, none⟩)) ⟨rfl, rfl, rfl, rfl, rfl, rfl, rfl, rfl⟩ ?_
  rintro a0 ⟨sz, df, m1, m2, m4, m6, m8, m9⟩
  refine ch161u (s := 34) (bb := 9) (i0 := 5) (j0 := 5) (i1 := 6) (j1 := 4) (i2 := 7) (j2 := 3) m1 m9 (by decide) (by decide) (by have := sz; omega) (fun t h h' => if_neg (by omega)) ⟨rfl, by decide⟩ ⟨rfl, by decide⟩ ⟨rfl, by decide⟩ ⟨rfl, by decide⟩ ⟨rfl, by decide⟩ ⟨rfl, by decide⟩ (fun w' hw => ra w' hw 5 _ C5.out) (fun w' hw => re w' hw 5 _ rfl) (fun w' hw => ra w' hw 6 _ C6.out) (fun w' hw => re w' hw 4 _ rfl) (fun w' hw => ra w' hw 7 _ C7.out) (fun w' hw => re w' hw 3 _ rfl) R5.out T5.out R6.out T4.out R7.out T3.out (fun r1 a1 E1 v1 hr1 => ?_)
  have RR1 := Lib.hid hr1
  clear hr1
  have F1 := E1
  refine ch161d (s := 47) (bb := 9) (i0 := 2) (j0 := 4) (i1 := 1) (j1 := 5) (i2 := 3) (j2 := 3) ((F1.low 1 (by decide)).trans m1) ((F1.low 9 (by decide)).trans m9) (by decide) (by decide) (by have := (F1.size.trans sz); omega) (fun t h h' => if_neg (by omega)) ⟨rfl, by decide⟩ ⟨rfl, by decide⟩ ⟨rfl, by decide⟩ ⟨rfl, by decide⟩ ⟨rfl, by decide⟩ ⟨rfl, by decide⟩ (fun w' hw => ra w' hw 2 _ C2.out) (fun w' hw => re w' hw 4 _ rfl) (fun w' hw => ra w' hw 1 _ C1.out) (fun w' hw => re w' hw 5 _ rfl) (fun w' hw => ra w' hw 3 _ C3.out) (fun w' hw => re w' hw 3 _ rfl) R2.out T4.out R1.out T5.out R3.out T3.out (fun r2 a2 E2 v2 hr2 => ?_)
  have RR2 := Lib.hid hr2
  clear hr2
  have F2 := F1.trans E2 (by decide)
  refine ch161u (s := 60) (bb := 8) (i0 := 13) (j0 := 5) (i1 := 14) (j1 := 4) (i2 := 15) (j2 := 3) ((F2.low 1 (by decide)).trans m1) ((F2.low 8 (by decide)).trans m8) (by decide) (by decide) (by have := (F2.size.trans sz); omega) (fun t h h' => if_neg (by omega)) ⟨rfl, by decide⟩ ⟨rfl, by decide⟩ ⟨rfl, by decide⟩ ⟨rfl, by decide⟩ ⟨rfl, by decide⟩ ⟨rfl, by decide⟩ (fun w' hw => ra w' hw 13 _ C13.out) (fun w' hw => rd w' hw 5 _ rfl) (fun w' hw => ra w' hw 14 _ C14.out) (fun w' hw => rd w' hw 4 _ rfl) (fun w' hw => ra w' hw 15 _ C15.out) (fun w' hw => rd w' hw 3 _ rfl) R13.out Q5.out R14.out Q4.out R15.out Q3.out (fun r3 a3 E3 v3 hr3 => ?_)
  have RR3 := Lib.hid hr3
  clear hr3
  have F3 := F2.trans E3 (by decide)
  refine ch161d (s := 73) (bb := 8) (i0 := 10) (j0 := 4) (i1 := 9) (j1 := 5) (i2 := 11) (j2 := 3) ((F3.low 1 (by decide)).trans m1) ((F3.low 8 (by decide)).trans m8) (by decide) (by decide) (by have := (F3.size.trans sz); omega) (fun t h h' => if_neg (by omega)) ⟨rfl, by decide⟩ ⟨rfl, by decide⟩ ⟨rfl, by decide⟩ ⟨rfl, by decide⟩ ⟨rfl, by decide⟩ ⟨rfl, by decide⟩ (fun w' hw => ra w' hw 10 _ C10.out) (fun w' hw => rd w' hw 4 _ rfl) (fun w' hw => ra w' hw 9 _ C9.out) (fun w' hw => rd w' hw 5 _ rfl) (fun w' hw => ra w' hw 11 _ C11.out) (fun w' hw => rd w' hw 3 _ rfl) R10.out Q4.out R9.out Q5.out R11.out Q3.out (fun r4 a4 E4 v4 hr4 => ?_)
  have RR4 := Lib.hid hr4
  clear hr4
  have F4 := F3.trans E4 (by decide)
  refine ch161d (s := 86) (bb := 9) (i0 := 6) (j0 := 2) (i1 := 4) (j1 := 5) (i2 := 7) (j2 := 1) ((F4.low 1 (by decide)).trans m1) ((F4.low 9 (by decide)).trans m9) (by decide) (by decide) (by have := (F4.size.trans sz); omega) (fun t h h' => if_neg (by omega)) ⟨rfl, by decide⟩ ⟨rfl, by decide⟩ ⟨rfl, by decide⟩ ⟨rfl, by decide⟩ ⟨rfl, by decide⟩ ⟨rfl, by decide⟩ (fun w' hw => ra w' hw 6 _ C6.out) (fun w' hw => re w' hw 2 _ rfl) (fun w' hw => ra w' hw 4 _ C4.out) (fun w' hw => re w' hw 5 _ rfl) (fun w' hw => ra w' hw 7 _ C7.out) (fun w' hw => re w' hw 1 _ rfl) R6.out T2.out R4.out T5.out R7.out T1.out (fun r5 a5 E5 v5 hr5 => ?_)
  have RR5 := Lib.hid hr5
  clear hr5
  have F5 := F4.trans E5 (by decide)
  refine ch161u (s := 99) (bb := 9) (i0 := 0) (j0 := 5) (i1 := 2) (j1 := 2) (i2 := 3) (j2 := 1) ((F5.low 1 (by decide)).trans m1) ((F5.low 9 (by decide)).trans m9) (by decide) (by decide) (by have := (F5.size.trans sz); omega) (fun t h h' => if_neg (by omega)) ⟨rfl, by decide⟩ ⟨rfl, by decide⟩ ⟨rfl, by decide⟩ ⟨rfl, by decide⟩ ⟨rfl, by decide⟩ ⟨rfl, by decide⟩ (fun w' hw => ra w' hw 0 _ C0.out) (fun w' hw => re w' hw 5 _ rfl) (fun w' hw => ra w' hw 2 _ C2.out) (fun w' hw => re w' hw 2 _ rfl) (fun w' hw => ra w' hw 3 _ C3.out) (fun w' hw => re w' hw 1 _ rfl) R0.out T5.out R2.out T2.out R3.out T1.out (fun r6 a6 E6 v6 hr6 => ?_)
  have RR6 := Lib.hid hr6
  clear hr6
  have F6 := F5.trans E6 (by decide)
  refine ch161d (s := 112) (bb := 8) (i0 := 14) (j0 := 2) (i1 := 12) (j1 := 5) (i2 := 15) (j2 := 1) ((F6.low 1 (by decide)).trans m1) ((F6.low 8 (by decide)).trans m8) (by decide) (by decide) (by have := (F6.size.trans sz); omega) (fun t h h' => if_neg (by omega)) ⟨rfl, by decide⟩ ⟨rfl, by decide⟩ ⟨rfl, by decide⟩ ⟨rfl, by decide⟩ ⟨rfl, by decide⟩ ⟨rfl, by decide⟩ (fun w' hw => ra w' hw 14 _ C14.out) (fun w' hw => rd w' hw 2 _ rfl) (fun w' hw => ra w' hw 12 _ C12.out) (fun w' hw => rd w' hw 5 _ rfl) (fun w' hw => ra w' hw 15 _ C15.out) (fun w' hw => rd w' hw 1 _ rfl) R14.out Q2.out R12.out Q5.out R15.out Q1.out (fun r7 a7 E7 v7 hr7 => ?_)
  have RR7 := Lib.hid hr7
  clear hr7
  have F7 := F6.trans E7 (by decide)
  refine ch161u (s := 125) (bb := 8) (i0 := 8) (j0 := 5) (i1 := 10) (j1 := 2) (i2 := 11) (j2 := 1) ((F7.low 1 (by decide)).trans m1) ((F7.low 8 (by decide)).trans m8) (by decide) (by decide) (by have := (F7.size.trans sz); omega) (fun t h h' => if_neg (by omega)) ⟨rfl, by decide⟩ ⟨rfl, by decide⟩ ⟨rfl, by decide⟩ ⟨rfl, by decide⟩ ⟨rfl, by decide⟩ ⟨rfl, by decide⟩ (fun w' hw => ra w' hw 8 _ C8.out) (fun w' hw => rd w' hw 5 _ rfl) (fun w' hw => ra w' hw 10 _ C10.out) (fun w' hw => rd w' hw 2 _ rfl) (fun w' hw => ra w' hw 11 _ C11.out) (fun w' hw => rd w' hw 1 _ rfl) R8.out Q5.out R10.out Q2.out R11.out Q1.out (fun r8 a8 E8 v8 hr8 => ?_)
  have RR8 := Lib.hid hr8
  clear hr8
  have F8 := F7.trans E8 (by decide)
  refine ch161u (s := 138) (bb := 9) (i0 := 4) (j0 := 4) (i1 := 5) (j1 := 2) (i2 := 7) (j2 := 0) ((F8.low 1 (by decide)).trans m1) ((F8.low 9 (by decide)).trans m9) (by decide) (by decide) (by have := (F8.size.trans sz); omega) (fun t h h' => if_neg (by omega)) ⟨rfl, by decide⟩ ⟨rfl, by decide⟩ ⟨rfl, by decide⟩ ⟨rfl, by decide⟩ ⟨rfl, by decide⟩ ⟨rfl, by decide⟩ (fun w' hw => ra w' hw 4 _ C4.out) (fun w' hw => re w' hw 4 _ rfl) (fun w' hw => ra w' hw 5 _ C5.out) (fun w' hw => re w' hw 2 _ rfl) (fun w' hw => ra w' hw 7 _ C7.out) (fun w' hw => re w' hw 0 _ rfl) R4.out T4.out R5.out T2.out R7.out T0.out (fun r9 a9 E9 v9 hr9 => ?_)
  have RR9 := Lib.hid hr9
  clear hr9
  have F9 := F8.trans E9 (by decide)
  refine ch161d (s := 151) (bb := 9) (i0 := 1) (j0 := 2) (i1 := 0) (j1 := 4) (i2 := 3) (j2 := 0) ((F9.low 1 (by decide)).trans m1) ((F9.low 9 (by decide)).trans m9) (by decide) (by decide) (by have := (F9.size.trans sz); omega) (fun t h h' => if_neg (by omega)) ⟨rfl, by decide⟩ ⟨rfl, by decide⟩ ⟨rfl, by decide⟩ ⟨rfl, by decide⟩ ⟨rfl, by decide⟩ ⟨rfl, by decide⟩ (fun w' hw => ra w' hw 1 _ C1.out) (fun w' hw => re w' hw 2 _ rfl) (fun w' hw => ra w' hw 0 _ C0.out) (fun w' hw => re w' hw 4 _ rfl) (fun w' hw => ra w' hw 3 _ C3.out) (fun w' hw => re w' hw 0 _ rfl) R1.out T2.out R0.out T4.out R3.out T0.out (fun r10 a10 E10 v10 hr10 => ?_)
  have RR10 := Lib.hid hr10
  clear hr10
  have F10 := F9.trans E10 (by decide)
  refine ch161u (s := 164) (bb := 8) (i0 := 12) (j0 := 4) (i1 := 13) (j1 := 2) (i2 := 15) (j2 := 0) ((F10.low 1 (by decide)).trans m1) ((F10.low 8 (by decide)).trans m8) (by decide) (by decide) (by have := (F10.size.trans sz); omega) (fun t h h' => if_neg (by omega)) ⟨rfl, by decide⟩ ⟨rfl, by decide⟩ ⟨rfl, by decide⟩ ⟨rfl, by decide⟩ ⟨rfl, by decide⟩ ⟨rfl, by decide⟩ (fun w' hw => ra w' hw 12 _ C12.out) (fun w' hw => rd w' hw 4 _ rfl) (fun w' hw => ra w' hw 13 _ C13.out) (fun w' hw => rd w' hw 2 _ rfl) (fun w' hw => ra w' hw 15 _ C15.out) (fun w' hw => rd w' hw 0 _ rfl) R12.out Q4.out R13.out Q2.out R15.out Q0.out (fun r11 a11 E11 v11 hr11 => ?_)
  have RR11 := Lib.hid hr11
  clear hr11
  have F11 := F10.trans E11 (by decide)
  refine ch161d (s := 177) (bb := 8) (i0 := 9) (j0 := 2) (i1 := 8) (j1 := 4) (i2 := 11) (j2 := 0) ((F11.low 1 (by decide)).trans m1) ((F11.low 8 (by decide)).trans m8) (by decide) (by decide) (by have := (F11.size.trans sz); omega) (fun t h h' => if_neg (by omega)) ⟨rfl, by decide⟩ ⟨rfl, by decide⟩ ⟨rfl, by decide⟩ ⟨rfl, by decide⟩ ⟨rfl, by decide⟩ ⟨rfl, by decide⟩ (fun w' hw => ra w' hw 9 _ C9.out) (fun w' hw => rd w' hw 2 _ rfl) (fun w' hw => ra w' hw 8 _ C8.out) (fun w' hw => rd w' hw 4 _ rfl) (fun w' hw => ra w' hw 11 _ C11.out) (fun w' hw => rd w' hw 0 _ rfl) R9.out Q2.out R8.out Q4.out R11.out Q0.out (fun r12 a12 E12 v12 hr12 => ?_)
  have RR12 := Lib.hid hr12
  clear hr12
  have F12 := F11.trans E12 (by decide)
  refine ch161d (s := 190) (bb := 9) (i0 := 5) (j0 := 1) (i1 := 4) (j1 := 3) (i2 := 6) (j2 := 0) ((F12.low 1 (by decide)).trans m1) ((F12.low 9 (by decide)).trans m9) (by decide) (by decide) (by have := (F12.size.trans sz); omega) (fun t h h' => if_neg (by omega)) ⟨rfl, by decide⟩ ⟨rfl, by decide⟩ ⟨rfl, by decide⟩ ⟨rfl, by decide⟩ ⟨rfl, by decide⟩ ⟨rfl, by decide⟩ (fun w' hw => ra w' hw 5 _ C5.out) (fun w' hw => re w' hw 1 _ rfl) (fun w' hw => ra w' hw 4 _ C4.out) (fun w' hw => re w' hw 3 _ rfl) (fun w' hw => ra w' hw 6 _ C6.out) (fun w' hw => re w' hw 0 _ rfl) R5.out T1.out R4.out T3.out R6.out T0.out (fun r13 a13 E13 v13 hr13 => ?_)
  have RR13 := Lib.hid hr13
  clear hr13
  have F13 := F12.trans E13 (by decide)
  refine ch161u (s := 203) (bb := 9) (i0 := 0) (j0 := 3) (i1 := 1) (j1 := 1) (i2 := 2) (j2 := 0) ((F13.low 1 (by decide)).trans m1) ((F13.low 9 (by decide)).trans m9) (by decide) (by decide) (by have := (F13.size.trans sz); omega) (fun t h h' => if_neg (by omega)) ⟨rfl, by decide⟩ ⟨rfl, by decide⟩ ⟨rfl, by decide⟩ ⟨rfl, by decide⟩ ⟨rfl, by decide⟩ ⟨rfl, by decide⟩ (fun w' hw => ra w' hw 0 _ C0.out) (fun w' hw => re w' hw 3 _ rfl) (fun w' hw => ra w' hw 1 _ C1.out) (fun w' hw => re w' hw 1 _ rfl) (fun w' hw => ra w' hw 2 _ C2.out) (fun w' hw => re w' hw 0 _ rfl) R0.out T3.out R1.out T1.out R2.out T0.out (fun r14 a14 E14 v14 hr14 => ?_)
  have RR14 := Lib.hid hr14
  clear hr14
  have F14 := F13.trans E14 (by decide)
  refine ch161d (s := 216) (bb := 8) (i0 := 13) (j0 := 1) (i1 := 12) (j1 := 3) (i2 := 14) (j2 := 0) ((F14.low 1 (by decide)).trans m1) ((F14.low 8 (by decide)).trans m8) (by decide) (by decide) (by have := (F14.size.trans sz); omega) (fun t h h' => if_neg (by omega)) ⟨rfl, by decide⟩ ⟨rfl, by decide⟩ ⟨rfl, by decide⟩ ⟨rfl, by decide⟩ ⟨rfl, by decide⟩ ⟨rfl, by decide⟩ (fun w' hw => ra w' hw 13 _ C13.out) (fun w' hw => rd w' hw 1 _ rfl) (fun w' hw => ra w' hw 12 _ C12.out) (fun w' hw => rd w' hw 3 _ rfl) (fun w' hw => ra w' hw 14 _ C14.out) (fun w' hw => rd w' hw 0 _ rfl) R13.out Q1.out R12.out Q3.out R14.out Q0.out (fun r15 a15 E15 v15 hr15 => ?_)
  have RR15 := Lib.hid hr15
  clear hr15
  have F15 := F14.trans E15 (by decide)
  refine ch161u (s := 229) (bb := 8) (i0 := 8) (j0 := 3) (i1 := 9) (j1 := 1) (i2 := 10) (j2 := 0) ((F15.low 1 (by decide)).trans m1) ((F15.low 8 (by decide)).trans m8) (by decide) (by decide) (by have := (F15.size.trans sz); omega) (fun t h h' => if_neg (by omega)) ⟨rfl, by decide⟩ ⟨rfl, by decide⟩ ⟨rfl, by decide⟩ ⟨rfl, by decide⟩ ⟨rfl, by decide⟩ ⟨rfl, by decide⟩ (fun w' hw => ra w' hw 8 _ C8.out) (fun w' hw => rd w' hw 3 _ rfl) (fun w' hw => ra w' hw 9 _ C9.out) (fun w' hw => rd w' hw 1 _ rfl) (fun w' hw => ra w' hw 10 _ C10.out) (fun w' hw => rd w' hw 0 _ rfl) R8.out Q3.out R9.out Q1.out R10.out Q0.out (fun r16 a16 E16 v16 hr16 => ?_)
  have RR16 := Lib.hid hr16
  clear hr16
  have F16 := F15.trans E16 (by decide)
  have B16 := Ext.refl a16 242
  have B15 := E16.trans B16 (by decide)
  have B14 := E15.trans B15 (by decide)
  have B13 := E14.trans B14 (by decide)
  have B12 := E13.trans B13 (by decide)
  have B11 := E12.trans B12 (by decide)
  have B10 := E11.trans B11 (by decide)
  have B9 := E10.trans B10 (by decide)
  have B8 := E9.trans B9 (by decide)
  have B7 := E8.trans B8 (by decide)
  have B6 := E7.trans B7 (by decide)
  have B5 := E6.trans B6 (by decide)
  have B4 := E5.trans B5 (by decide)
  have B3 := E4.trans B4 (by decide)
  have B2 := E3.trans B3 (by decide)
  have B1 := E2.trans B2 (by decide)
  have L1 := (B1.low 46 (by decide)).trans v1
  have L2 := (B2.low 59 (by decide)).trans v2
  have L3 := (B3.low 72 (by decide)).trans v3
  have L4 := (B4.low 85 (by decide)).trans v4
  have L5 := (B5.low 98 (by decide)).trans v5
  have L6 := (B6.low 111 (by decide)).trans v6
  have L7 := (B7.low 124 (by decide)).trans v7
  have L8 := (B8.low 137 (by decide)).trans v8
  have L9 := (B9.low 150 (by decide)).trans v9
  have L10 := (B10.low 163 (by decide)).trans v10
  have L11 := (B11.low 176 (by decide)).trans v11
  have L12 := (B12.low 189 (by decide)).trans v12
  have L13 := (B13.low 202 (by decide)).trans v13
  have L14 := (B14.low 215 (by decide)).trans v14
  have L15 := (B15.low 228 (by decide)).trans v15
  have L16 := (B16.low 241 (by decide)).trans v16
  rw [Array.getD_eq_getD_getElem?] at L1 L2 L3 L4 L5 L6 L7 L8 L9 L10 L11 L12 L13 L14 L15 L16
  refine RB.rel_val (v := .agg #[.float .f64 r1, .float .f64 r2, .float .f64 r3, .float .f64 r4, .float .f64 r5, .float .f64 r6, .float .f64 r7, .float .f64 r8, .float .f64 r9, .float .f64 r10, .float .f64 r11, .float .f64 r12, .float .f64 r13, .float .f64 r14, .float .f64 r15, .float .f64 r16]) rfl rfl (fun w' hw => by
    unfold execOp
    simp only [Act.eval]
    go_simp) ?_
  have FF := F16.trans (Ext.put (a := a16) (show 242 ≤ 242 from Nat.le_refl _) (.agg #[.float .f64 r1, .float .f64 r2, .float .f64 r3, .float .f64 r4, .float .f64 r5, .float .f64 r6, .float .f64 r7, .float .f64 r8, .float .f64 r9, .float .f64 r10, .float .f64 r11, .float .f64 r12, .float .f64 r13, .float .f64 r14, .float .f64 r15, .float .f64 r16])) (by decide)
  have G242 := at_put (a := a16) (d := 242) (by have := F16.size.trans sz; omega) (.agg #[.float .f64 r1, .float .f64 r2, .float .f64 r3, .float .f64 r4, .float .f64 r5, .float .f64 r6, .float .f64 r7, .float .f64 r8, .float .f64 r9, .float .f64 r10, .float .f64 r11, .float .f64 r12, .float .f64 r13, .float .f64 r14, .float .f64 r15, .float .f64 r16])
  have Z := FF.size.trans sz
  have Z2 := FF.defers.trans df
  have k2 := (FF.low 2 (by decide)).trans m2
  have k4 := (FF.low 4 (by decide)).trans m4
  have k6 := (FF.low 6 (by decide)).trans m6
  generalize a16.put (some 242) _ = b at *
  clear L1 B1 v1 E1 F1 L2 B2 v2 E2 F2 L3 B3 v3 E3 F3 L4 B4 v4 E4 F4 L5 B5 v5 E5 F5 L6 B6 v6 E6 F6 L7 B7 v7 E7 F7 L8 B8 v8 E8 F8 L9 B9 v9 E9 F9 L10 B10 v10 E10 F10 L11 B11 v11 E11 F11 L12 B12 v12 E12 F12 L13 B13 v13 E13 F13 L14 B14 v14 E14 F14 L15 B15 v15 E15 F15 L16 B16 v16 E16 F16 FF
  obtain ⟨f, hf⟩ : ∃ f : Nat → Value, ∀ t, b.tmps.getD t undef = f t := ⟨_, fun _ => rfl⟩
  have e := frame255 b Z Z2 f hf
  rw [hf] at k2 k4 k6 G242
  rw [k2, k4, k6, G242] at e
  clear Z Z2 hf k2 k4 k6 G242 m1 m2 m4 m6 m8 m9 sz df
  subst e
  refine RB.rel_nil ?_
  intro w3 hB3 _
  have W3 := iw_below hW.out.i hB3
  have HD := Lib.hid (show DivS (adjP (mp ms)) (detP (mp ms)) [r1, r2, r3, r4, r5, r6, r7, r8, r9, r10, r11, r12, r13, r14, r15, r16] 0 from ⟨rfl, fun j hj => by
    rw [if_neg (by omega)]
    rcases (by omega : j = 0 ∨ j = 1 ∨ j = 2 ∨ j = 3 ∨ j = 4 ∨ j = 5 ∨ j = 6 ∨ j = 7 ∨ j = 8 ∨ j = 9 ∨ j = 10 ∨ j = 11 ∨ j = 12 ∨ j = 13 ∨ j = 14 ∨ j = 15) with rfl | rfl | rfl | rfl | rfl | rfl | rfl | rfl | rfl | rfl | rfl | rfl | rfl | rfl | rfl | rfl
    · exact RR1.out
    · exact RR2.out
    · exact RR3.out
    · exact RR4.out
    · exact RR5.out
    · exact RR6.out
    · exact RR7.out
    · exact RR8.out
    · exact RR9.out
    · exact RR10.out
    · exact RR11.out
    · exact RR12.out
    · exact RR13.out
    · exact RR14.out
    · exact RR15.out
    · exact RR16.out
⟩)
  have T3 := Lib.hid (thereA W3.t (show [r1, r2, r3, r4, r5, r6, r7, r8, r9, r10, r11, r12, r13, r14, r15, r16].length = 16 from rfl))
  have E3 := Lib.hid (size80A [r1, r2, r3, r4, r5, r6, r7, r8, r9, r10, r11, r12, r13, r14, r15, r16] rfl)
  have hb : Below g w3 (w3.setCells g 0 ([r1, r2, r3, r4, r5, r6, r7, r8, r9, r10, r11, r12, r13, r14, r15, r16].map (Value.float .f64))) := below_setCells (Below.refl g w3) (Nat.le_refl _) 0 _
  have W4 := Lib.hid (show IW (w3.setCells g 0 ([r1, r2, r3, r4, r5, r6, r7, r8, r9, r10, r11, r12, r13, r14, r15, r16].map (Value.float .f64))) w (ms.map (Value.float .f64)) g [r1, r2, r3, r4, r5, r6, r7, r8, r9, r10, r11, r12, r13, r14, r15, r16] from
    ⟨⟨range_below W3.o.r1 hb (by have := W3.l; omega), there_below W3.o.t hb W3.l.1, below_setCells W3.o.b (by have := W3.l; omega) 0 _, by rw [size_setCells]; exact W3.o.lt⟩, World.rangeAt_setCells_same _ _ _ _ (thereL W3.t rfl), World.there_setCells W3.t _ _ _, W3.l.1, by rw [size_setCells]; exact W3.l.2⟩)
  clear hb W3 hB3 hW ra rd re
  go_upto_region 12 with (refine wpList_store_mid rfl 80 (.tmp 6) (.tmp 242) rfl g 0 ([r1, r2, r3, r4, r5, r6, r7, r8, r9, r10, r11, r12, r13, r14, r15, r16].map (Value.float .f64)).toArray rfl rfl T3.out E3.out (one16 [r1, r2, r3, r4, r5, r6, r7, r8, r9, r10, r11, r12, r13, r14, r15, r16]) ?_)
  refine wp_gen (fun wx => Hid (IW wx w (ms.map (Value.float .f64)) g [r1, r2, r3, r4, r5, r6, r7, r8, r9, r10, r11, r12, r13, r14, r15, r16])) W4 ?_
  intro we hW
  clear W4 T3 E3
  generalize [r1, r2, r3, r4, r5, r6, r7, r8, r9, r10, r11, r12, r13, r14, r15, r16] = vs at *
  go_wp2_with fail
  go_loopw [10] (fun ii wx => ∃ (k : Nat) (os : List Nat), ii = .int .i64 (k : Nat) ∧ Hid (k ≤ 16) ∧ Hid (DivS (adjP (mp ms)) (detP (mp ms)) os k) ∧ Hid (IW wx w (ms.map (Value.float .f64)) g os)) (fun ii _ => 16 - (intOf ii).toNat)
  case atStart => exact ⟨0, _, rfl, Lib.hid (by omega), HD, hW⟩
  case round =>
    obtain ⟨k, os, rfl, hk, hS, hX⟩ := hrel
    clear hW HD
    by_cases hlt : k < 16
    · have hki : (k : Int) < 16 := by omega
      have hk0 : (0 : Int) ≤ (k : Int) := by omega
      have HLT := Lib.hid hlt
      obtain ⟨y, cy, ry⟩ := div_get hS.out hlt
      have RY := Lib.hid ry
      have cy : wr.cell? ⟨g, k, none⟩ = some (.float .f64 y) := by have := hX.out.r k _ (map_get cy); rwa [Nat.zero_add] at this
      have hQ := fun x y w => run_fop (P := Try.prog) .quo rfl 24 x y w
      have st : ∀ (v n : Nat), (store ⟨g, k, none⟩ (.float .f64 v)).run Try.prog (wr.drewN n) = .ok () ((wr.drewN n).setCell ⟨g, k, none⟩ (.float .f64 v)) := fun v n => store1 (iw_drew hX.out n).t (o := k) hlt v
      clear hlt ry
      go_wp2_with fail
      go_roundw
      case rel => exact ⟨k + 1, _, by go_num, Lib.hid (by have := HLT.out; omega), Lib.hid (div_step hS.out HLT.out (RV.fop .quo RY.out HX.out _)), Lib.hid (iw_set (iw_drew hX.out _) k _)⟩
      case measure => have := HLT.out; simp [intOf]; omega
    · have hki : ¬ (k : Int) < 16 := by omega
      have hk16 : k = 16 := by have := hk.out; omega
      subst hk16
      have hl := hS.out.1
      have RR := Lib.hid hX.out.r
      have E1 := Lib.hid (size80L os hl)
      have E2 := Lib.hid (size80A os hl)
      have T0 := Lib.hid (thereA hX.out.o.t hl)
      have T1 := Lib.hid (thereL hX.out.o.t hl)
      have BB := Lib.hid (below_setCells hX.out.o.b (Nat.le_succ _) 0 (os.map (Value.float .f64)))
      have HS := Lib.hid (div_end hS.out)
      clear hlt hk hS hX hl
      go_wp2_with (first
        | (refine wpList_load_mid rfl 80 (.tmp 6) rfl g 0 rfl (os.map (Value.float .f64)) _ RR.out Try.underlying80 rfl E1.out ?_)
        | (refine wpList_store_mid rfl 80 (.tmp 2) (.tmp 254) rfl (w.heap.size + 1) 0 (os.map (Value.float .f64)).toArray rfl rfl T0.out E2.out (one16 os) ?_))
      refine bodyPost_ret (v := .tuple #[.agg (os.map (Value.float .f64)).toArray, .bool true]) (ret_row2 Try.prog Try.results98 rfl (os.map (Value.float .f64)) T1.out Try.underlying80 rfl E1.out) rfl ⟨⟨os, rfl, HS.out⟩, BB.out⟩
end Go.Proofs.Ytelalledjbeenaa
