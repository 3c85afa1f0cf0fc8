/- four, Times, galleyref15's Apply: printed by geo18.py. -/
import Derived.Test.YtedkbjimofiphaaMgGeoW
import Derived.Test.YtedkbjimofiphaaGeoO
namespace Go.Proofs.Ytedkbjimofiphaa
open Go.RowKit Fl
def fourP (a b c d x y z w : Int) : Int := opP .add (opP .add (opP .add (opP .mul a x) (opP .mul b y)) (opP .mul c z)) (opP .mul d w)
set_option maxRecDepth 100000 in
set_option maxHeartbeats 2000000 in
theorem k163 {a0 a1 a2 a3 b0 b1 b2 b3 : Nat} {A0 A1 A2 A3 B0 B1 B2 B3 : Int} (ha0 : RV a0 A0) (ha1 : RV a1 A1) (ha2 : RV a2 A2) (ha3 : RV a3 A3) (hb0 : RV b0 B0) (hb1 : RV b1 B1) (hb2 : RV b2 B2) (hb3 : RV b3 B3) (w : World) :
    Calls Try.prog 52 #[.agg #[.float .f64 a0, .float .f64 a1, .float .f64 a2, .float .f64 a3], .agg #[.float .f64 b0, .float .f64 b1, .float .f64 b2, .float .f64 b3]] w fun e w' => RetR (fourP A0 A1 A2 A3 B0 B1 B2 B3) e ∧ Below w.heap.size w w' := by
  have HA := Lib.hid (And.intro ha0 (And.intro ha1 (And.intro ha2 ha3)))
  have HB := Lib.hid (And.intro hb0 (And.intro hb1 (And.intro hb2 hb3)))
  clear ha0 ha1 ha2 ha3 hb0 hb1 hb2 hb3
  have hA := fun x y w => run_fop (P := Try.prog) .add rfl 31 x y w
  have hM := fun x y w => run_fop (P := Try.prog) .mul rfl 31 x y w
  have BD := Lib.hid (fun n => Bd (((Below.refl w.heap.size w).alloc (Nat.le_refl _) (.cells #[.float .f64 a0, .float .f64 a1, .float .f64 a2, .float .f64 a3] 102)).alloc (by simp) (.cells #[.float .f64 b0, .float .f64 b1, .float .f64 b2, .float .f64 b3] 102)) n)
  go_enter Try.func52, Try.ntmps52
  go_wp2
  go_ret
  exact ⟨⟨_, rfl, RV.fop .add (RV.fop .add (RV.fop .add (RV.fop .mul HA.out.1 HB.out.1 _) (RV.fop .mul HA.out.2.1 HB.out.2.1 _) _) (RV.fop .mul HA.out.2.2.1 HB.out.2.2.1 _) _) (RV.fop .mul HA.out.2.2.2 HB.out.2.2.2 _) _⟩, BD.out _⟩
def GFR (f : FuncId) (args : Array Value) (v : Value) : Prop :=
  match f with
  | 52 => ∀ (a0 a1 a2 a3 a4 a5 a6 a7 : Nat), args = #[.agg #[.float .f64 a0, .float .f64 a1, .float .f64 a2, .float .f64 a3], .agg #[.float .f64 a4, .float .f64 a5, .float .f64 a6, .float .f64 a7]] → ∃ r : Nat, v = .float .f64 r ∧ RV r (fourP (pl a0) (pl a1) (pl a2) (pl a3) (pl a4) (pl a5) (pl a6) (pl a7))
  | _ => True
theorem g163 {w0 w : World} {a0 a1 a2 a3 a4 a5 a6 a7 : Nat} {P0 P1 P2 P3 P4 P5 P6 P7 : Int} (h0 : RV a0 P0) (h1 : RV a1 P1) (h2 : RV a2 P2) (h3 : RV a3 P3) (h4 : RV a4 P4) (h5 : RV a5 P5) (h6 : RV a6 P6) (h7 : RV a7 P7) (hw : Below w0.heap.size w0 w) : Calls Try.prog 52 #[.agg #[.float .f64 a0, .float .f64 a1, .float .f64 a2, .float .f64 a3], .agg #[.float .f64 a4, .float .f64 a5, .float .f64 a6, .float .f64 a7]] w fun e w' => ∃ v, e = .returned v ∧ GFR 52 #[.agg #[.float .f64 a0, .float .f64 a1, .float .f64 a2, .float .f64 a3], .agg #[.float .f64 a4, .float .f64 a5, .float .f64 a6, .float .f64 a7]] v ∧ Below w0.heap.size w0 w' :=
  (k163 (RV.self h0.1) (RV.self h1.1) (RV.self h2.1) (RV.self h3.1) (RV.self h4.1) (RV.self h5.1) (RV.self h6.1) (RV.self h7.1) w).mono fun e w' ⟨⟨r, he, hr⟩, hb⟩ => ⟨_, he, fun ba0 ba1 ba2 ba3 ba4 ba5 ba6 ba7 hh => by cases hh; exact ⟨r, rfl, hr⟩, below_trans hw hb⟩
theorem G163 {a0 a1 a2 a3 a4 a5 a6 a7 : Nat} {P0 P1 P2 P3 P4 P5 P6 P7 : Int} {v : Value} (hv : GFR 52 #[.agg #[.float .f64 a0, .float .f64 a1, .float .f64 a2, .float .f64 a3], .agg #[.float .f64 a4, .float .f64 a5, .float .f64 a6, .float .f64 a7]] v) (h0 : RV a0 P0) (h1 : RV a1 P1) (h2 : RV a2 P2) (h3 : RV a3 P3) (h4 : RV a4 P4) (h5 : RV a5 P5) (h6 : RV a6 P6) (h7 : RV a7 P7) : ∃ r : Nat, v = .float .f64 r ∧ RV r (fourP P0 P1 P2 P3 P4 P5 P6 P7) := by
  obtain ⟨_, rfl⟩ := h0
  obtain ⟨_, rfl⟩ := h1
  obtain ⟨_, rfl⟩ := h2
  obtain ⟨_, rfl⟩ := h3
  obtain ⟨_, rfl⟩ := h4
  obtain ⟨_, rfl⟩ := h5
  obtain ⟨_, rfl⟩ := h6
  obtain ⟨_, rfl⟩ := h7
  exact hv _ _ _ _ _ _ _ _ rfl
/-- the first c of n words are laid -/
def PLn (n : Nat) (f : Nat → Int) (os : List Nat) (c : Nat) : Prop := os.length = n ∧ ∀ j, j < c → RV (os.getD j 0) (f j)
theorem pl_start {n : Nat} {f : Nat → Int} : PLn n f (List.replicate n 0) 0 := ⟨List.length_replicate .., fun j hj => absurd hj (by omega)⟩
theorem pl_step {n : Nat} {f : Nat → Int} {os : List Nat} {c r : Nat} (h : PLn n f os c) (hc : c < n) (hr : RV r (f c)) : PLn n f (os.set c r) (c + 1) :=
  ⟨by rw [List.length_set]; exact h.1, fun j hj => by
    by_cases hjc : j = c
    · subst hjc
      rw [List.getD_eq_getElem?_getD, List.getElem?_set_self (by rw [h.1]; exact hc)]
      exact hr
    · rw [List.getD_eq_getElem?_getD, List.getElem?_set_ne (fun e => hjc e.symm), ← List.getD_eq_getElem?_getD]
      exact h.2 j (by omega)⟩
theorem pl_MU {f : Nat → Int} {os : List Nat} (h : PLn 16 f os 16) : MU os ∧ ∀ j, j < 16 → mp os j = f j :=
  ⟨⟨h.1, fun x hx => by
    obtain ⟨j, hj, rfl⟩ := List.mem_iff_getElem.1 hx
    have := (h.2 j (by rw [h.1] at hj; exact hj)).1
    rwa [List.getD_eq_getElem?_getD, List.getElem?_eq_getElem hj] at this⟩, fun j hj => (h.2 j hj).2⟩
/-- a matrix whose places are told -/
def RetM (f : Nat → Int) (e : Ending) : Prop := ∃ os : List Nat, e = .returned (.agg (os.map (Value.float .f64)).toArray) ∧ MU os ∧ ∀ j, j < 16 → mp os j = f j
structure TW (wx w : World) (A B : List Value) (m g n : Nat) (os : List Nat) : Prop where
  o : Two wx w A B m
  r : wx.rangeAt g 0 (os.map (Value.float .f64))
  t : wx.there g 0 n
  l : w.heap.size + 1 + 1 < g ∧ g < wx.heap.size
theorem tw_below {wx wy w : World} {A B : List Value} {m g n : Nat} {os : List Nat} (h : TW wx w A B m g n os) (hb : Below wx.heap.size wx wy) : TW wy w A B m g n os :=
  ⟨two_below h.o hb, range_below h.r hb h.l.2, there_below h.t hb h.l.2, h.l.1, Nat.lt_of_lt_of_le h.l.2 hb.size⟩
theorem tw_set {wx w : World} {A B : List Value} {m g n : Nat} {os : List Nat} (h : TW wx w A B m g n os) (k x : Nat) : TW (wx.setCell ⟨g, k, none⟩ (.float .f64 x)) w A B m g n (os.set k x) := by
  have hb : Below g wx (wx.setCell ⟨g, k, none⟩ (.float .f64 x)) := (Below.refl g wx).setCell (p := ⟨g, k, none⟩) (Nat.le_refl _) _
  have hl := h.l
  exact ⟨⟨range_below h.o.r1 hb (by omega), range_below h.o.r2 hb (by omega), there_below h.o.t hb (by omega), h.o.b.setCell (by simp; omega) _, Nat.lt_of_lt_of_le h.o.lt hb.size⟩, range_set h.r x, there_set h.t _ _, h.l.1, Nat.lt_of_lt_of_le h.l.2 hb.size⟩
def timesP (a b : Nat → Int) (k : Nat) : Int := rowP a (k % 4) (b (4 * (k / 4))) (b (4 * (k / 4) + 1)) (b (4 * (k / 4) + 2)) (b (4 * (k / 4) + 3))
theorem timesP_ci (a b : Nat → Int) {c i : Nat} (hi : i < 4) : timesP a b (4 * c + i) = rowP a i (b (4 * c)) (b (4 * c + 1)) (b (4 * c + 2)) (b (4 * c + 3)) := by
  unfold timesP
  rw [show (4 * c + i) % 4 = i by omega, show (4 * c + i) / 4 = c by omega]
theorem tw_entry (w : World) (A B : List Value) : TW ((((w.alloc (.cells A.toArray 44)).alloc (.cells B.toArray 44)).alloc (.cells Z16 44)).alloc (.cells Z16 44)) w A B 16 (w.heap.size + 1 + 1 + 1) 16 (List.replicate 16 0) := by
  have h := two_entry w A B Z16 44 44 44 16 rfl
  have e : (((w.alloc (.cells A.toArray 44)).alloc (.cells B.toArray 44)).alloc (.cells Z16 44)).heap.size = w.heap.size + 1 + 1 + 1 := by simp
  have hr := range_new (((w.alloc (.cells A.toArray 44)).alloc (.cells B.toArray 44)).alloc (.cells Z16 44)) ((List.replicate 16 0).map (Value.float .f64)) 44
  have ht := there_new (((w.alloc (.cells A.toArray 44)).alloc (.cells B.toArray 44)).alloc (.cells Z16 44)) Z16 44 16 rfl
  rw [e] at hr ht
  exact ⟨two_below h (alloc_below _ _), hr, ht, by omega, by simp⟩
set_option maxRecDepth 100000 in
set_option maxHeartbeats 2000000 in
theorem k99 {a b : List Nat} (ha : MU a) (hb : MU b) (w : World) :
    Calls Try.prog 35 #[.agg (a.map (Value.float .f64)).toArray, .agg (b.map (Value.float .f64)).toArray] w fun e w' => RetM (timesP (mp a) (mp b)) e ∧ Below w.heap.size w w' := by
  have HM := Lib.hid (And.intro ha hb)
  clear ha hb
  go_enter Try.func35, Try.ntmps35
  go_upto_region 2 with fail
  refine wp_gen (fun wx => Hid (TW wx w (a.map (Value.float .f64)) (b.map (Value.float .f64)) 16 (w.heap.size + 1 + 1 + 1) 16 (List.replicate 16 0))) (Lib.hid (tw_entry w (a.map (Value.float .f64)) (b.map (Value.float .f64)))) ?_
  intro wc hW
  generalize hg : w.heap.size + 1 + 1 + 1 = g at *
  clear hg
  go_wp2_with fail
  go_loopw [8] (fun kk wx => ∃ (c : Nat) (os : List Nat), c ≤ 4 ∧ kk = .int .i64 (c : Nat) ∧ Hid (PLn 16 (timesP (mp a) (mp b)) os (4 * c)) ∧ Hid (TW wx w (a.map (Value.float .f64)) (b.map (Value.float .f64)) 16 g 16 os)) (fun kk _ => 4 - (intOf kk).toNat)
  case atStart => exact ⟨0, _, by omega, rfl, Lib.hid pl_start, hW⟩
  case round =>
    obtain ⟨c, os, hc, rfl, hS, hX⟩ := hrel
    clear hW
    by_cases hlt : c < 4
    · have hkc : (c : Int) < 4 := by omega
      have HC := Lib.hid hlt
      have hc0 : (0 : Int) ≤ (c : Int) := by omega
      clear hlt hc
      go_wp2_with fail
      go_loopw [11] (fun ii wx => ∃ (i : Nat) (os : List Nat), ii = .int .i64 (i : Nat) ∧ Hid (i ≤ 4) ∧ Hid (PLn 16 (timesP (mp a) (mp b)) os (4 * c + i)) ∧ Hid (TW wx w (a.map (Value.float .f64)) (b.map (Value.float .f64)) 16 g 16 os)) (fun ii _ => 4 - (intOf ii).toNat)
      case atStart => exact ⟨0, os, rfl, Lib.hid (by omega), hS, hX⟩
      case round =>
        obtain ⟨i, os, rfl, hi, hS, hX⟩ := hrel
        by_cases hlt : i < 4
        · have hki : (i : Int) < 4 := by omega
          have hk16 : (i : Int) < 16 := by omega
          have hi0 : (0 : Int) ≤ (i : Int) := by omega
          have HLT := Lib.hid hlt
          obtain ⟨y0, d0, s0⟩ := HM.out.2.get (j := 4 * c) (by have := HC.out; omega)
          obtain ⟨y1, d1, s1⟩ := HM.out.2.get (j := 4 * c + 1) (by have := HC.out; omega)
          obtain ⟨y2, d2, s2⟩ := HM.out.2.get (j := 4 * c + 2) (by have := HC.out; omega)
          obtain ⟨y3, d3, s3⟩ := HM.out.2.get (j := 4 * c + 3) (by have := HC.out; omega)
          have RY := Lib.hid (And.intro s0 (And.intro s1 (And.intro s2 s3)))
          have D0 := Lib.hid (map_get d0)
          have D1 := Lib.hid (map_get d1)
          have D2 := Lib.hid (map_get d2)
          have D3 := Lib.hid (map_get d3)
          clear d0 d1 d2 d3 s0 s1 s2 s3
          clear hlt
          go_upto_region 8 with fail
          have ra : ∀ w', Below wr.heap.size wr w' → w'.rangeAt w.heap.size 0 (a.map (Value.float .f64)) := fun w' hw => range_below hX.out.o.r1 hw (by have := hX.out.o.lt; omega)
          have rb : ∀ w', Below wr.heap.size wr w' → w'.rangeAt (w.heap.size + 1) 0 (b.map (Value.float .f64)) := fun w' hw => range_below hX.out.o.r2 hw (by have := hX.out.o.lt; omega)
          have Z0 : Hid (IntKind.i64.wrap (4 * (c : Int)) = 4 * (c : Int) ∧ (0 : Int) ≤ 4 * (c : Int) ∧ (4 * (c : Int)).toNat = 4 * c ∧ 4 * (c : Int) < 16) := Lib.hid ⟨by rw [IntKind.wrap_i64]; omega, by omega, by omega, by omega⟩
          have Z1 : Hid (IntKind.i64.wrap (4 * (c : Int) + (i : Int)) = 4 * (c : Int) + (i : Int) ∧ (0 : Int) ≤ 4 * (c : Int) + (i : Int) ∧ (4 * (c : Int) + (i : Int)).toNat = 4 * c + i ∧ 4 * (c : Int) + (i : Int) < 16) := Lib.hid ⟨by rw [IntKind.wrap_i64]; omega, by omega, by omega, by omega⟩
          have Z2 : Hid (IntKind.i64.wrap (4 * (c : Int) + 1) = 4 * (c : Int) + 1 ∧ (0 : Int) ≤ 4 * (c : Int) + 1 ∧ (4 * (c : Int) + 1).toNat = 4 * c + 1 ∧ 4 * (c : Int) + 1 < 16) := Lib.hid ⟨by rw [IntKind.wrap_i64]; omega, by omega, by omega, by omega⟩
          have Z3 : Hid (IntKind.i64.wrap (4 * (c : Int) + 2) = 4 * (c : Int) + 2 ∧ (0 : Int) ≤ 4 * (c : Int) + 2 ∧ (4 * (c : Int) + 2).toNat = 4 * c + 2 ∧ 4 * (c : Int) + 2 < 16) := Lib.hid ⟨by rw [IntKind.wrap_i64]; omega, by omega, by omega, by omega⟩
          have Z4 : Hid (IntKind.i64.wrap (4 * (c : Int) + 3) = 4 * (c : Int) + 3 ∧ (0 : Int) ≤ 4 * (c : Int) + 3 ∧ (4 * (c : Int) + 3).toNat = 4 * c + 3 ∧ 4 * (c : Int) + 3 < 16) := Lib.hid ⟨by rw [IntKind.wrap_i64]; omega, by omega, by omega, by omega⟩
          obtain ⟨W0, N0, T0, L0⟩ := Z0.out
          obtain ⟨W1, N1, T1, L1⟩ := Z1.out
          obtain ⟨W2, N2, T2, L2⟩ := Z2.out
          obtain ⟨W3, N3, T3, L3⟩ := Z3.out
          obtain ⟨W4, N4, T4, L4⟩ := Z4.out
          refine wp_region_rel 27 (fun w' => Below wr.heap.size wr w') GEM (by kernel_rfl) (by kernel_rfl) ((Below.refl _ _).drew) ?_
          simp only [List.take_succ_cons, List.take_zero, List.drop_succ_cons, List.drop_zero]
          refine rel_move (v := .int .i64 (c : Int)) rfl rfl ?_
          simp only [Act.put, List.setIfInBounds_toArray, List.set_cons_succ, List.set_cons_zero]
          refine rel_val (v := .int .i64 (4 * (c : Int))) rfl (fun w' hw => by go_simp) ?_
          simp only [Act.put, List.setIfInBounds_toArray, List.set_cons_succ, List.set_cons_zero]
          refine rel_move (v := .int .i64 (i : Int)) rfl rfl ?_
          simp only [Act.put, List.setIfInBounds_toArray, List.set_cons_succ, List.set_cons_zero]
          refine rel_val (v := .int .i64 ((4 * (c : Int)) + (i : Int))) rfl (fun w' hw => by go_simp) ?_
          simp only [Act.put, List.setIfInBounds_toArray, List.set_cons_succ, List.set_cons_zero]
          refine rel_load_row (w.heap.size) 0 (a.map (Value.float .f64)) _ rfl rfl ra Try.underlying44 rfl (by rw [List.length_map, HM.out.1.1]; exact size80) ?_
          simp only [Act.put, List.setIfInBounds_toArray, List.set_cons_succ, List.set_cons_zero]
          refine rel_move (v := .int .i64 (i : Int)) rfl rfl ?_
          simp only [Act.put, List.setIfInBounds_toArray, List.set_cons_succ, List.set_cons_zero]
          refine rel_move (v := .int .i64 (c : Int)) rfl rfl ?_
          simp only [Act.put, List.setIfInBounds_toArray, List.set_cons_succ, List.set_cons_zero]
          refine rel_val (v := .int .i64 (4 * (c : Int))) rfl (fun w' hw => by go_simp) ?_
          simp only [Act.put, List.setIfInBounds_toArray, List.set_cons_succ, List.set_cons_zero]
          refine rel_val (v := .pointer (some ⟨w.heap.size + 1, 4 * c, none⟩)) rfl (fun w' hw => by go_simp) ?_
          simp only [Act.put, List.setIfInBounds_toArray, List.set_cons_succ, List.set_cons_zero]
          refine rel_loadF (w.heap.size + 1) (4 * c) y0 rfl rfl (fun w' hw => rb w' hw (4 * c) _ D0.out) ?_
          simp only [Act.put, List.setIfInBounds_toArray, List.set_cons_succ, List.set_cons_zero]
          refine rel_move (v := .int .i64 (c : Int)) rfl rfl ?_
          simp only [Act.put, List.setIfInBounds_toArray, List.set_cons_succ, List.set_cons_zero]
          refine rel_val (v := .int .i64 (4 * (c : Int))) rfl (fun w' hw => by go_simp) ?_
          simp only [Act.put, List.setIfInBounds_toArray, List.set_cons_succ, List.set_cons_zero]
          refine rel_val (v := .int .i64 ((4 * (c : Int)) + 1)) rfl (fun w' hw => by go_simp) ?_
          simp only [Act.put, List.setIfInBounds_toArray, List.set_cons_succ, List.set_cons_zero]
          refine rel_val (v := .pointer (some ⟨w.heap.size + 1, 4 * c + 1, none⟩)) rfl (fun w' hw => by go_simp) ?_
          simp only [Act.put, List.setIfInBounds_toArray, List.set_cons_succ, List.set_cons_zero]
          refine rel_loadF (w.heap.size + 1) (4 * c + 1) y1 rfl rfl (fun w' hw => rb w' hw (4 * c + 1) _ D1.out) ?_
          simp only [Act.put, List.setIfInBounds_toArray, List.set_cons_succ, List.set_cons_zero]
          refine rel_move (v := .int .i64 (c : Int)) rfl rfl ?_
          simp only [Act.put, List.setIfInBounds_toArray, List.set_cons_succ, List.set_cons_zero]
          refine rel_val (v := .int .i64 (4 * (c : Int))) rfl (fun w' hw => by go_simp) ?_
          simp only [Act.put, List.setIfInBounds_toArray, List.set_cons_succ, List.set_cons_zero]
          refine rel_val (v := .int .i64 ((4 * (c : Int)) + 2)) rfl (fun w' hw => by go_simp) ?_
          simp only [Act.put, List.setIfInBounds_toArray, List.set_cons_succ, List.set_cons_zero]
          refine rel_val (v := .pointer (some ⟨w.heap.size + 1, 4 * c + 2, none⟩)) rfl (fun w' hw => by go_simp) ?_
          simp only [Act.put, List.setIfInBounds_toArray, List.set_cons_succ, List.set_cons_zero]
          refine rel_loadF (w.heap.size + 1) (4 * c + 2) y2 rfl rfl (fun w' hw => rb w' hw (4 * c + 2) _ D2.out) ?_
          simp only [Act.put, List.setIfInBounds_toArray, List.set_cons_succ, List.set_cons_zero]
          refine rel_move (v := .int .i64 (c : Int)) rfl rfl ?_
          simp only [Act.put, List.setIfInBounds_toArray, List.set_cons_succ, List.set_cons_zero]
          refine rel_val (v := .int .i64 (4 * (c : Int))) rfl (fun w' hw => by go_simp) ?_
          simp only [Act.put, List.setIfInBounds_toArray, List.set_cons_succ, List.set_cons_zero]
          refine rel_val (v := .int .i64 ((4 * (c : Int)) + 3)) rfl (fun w' hw => by go_simp) ?_
          simp only [Act.put, List.setIfInBounds_toArray, List.set_cons_succ, List.set_cons_zero]
          refine rel_val (v := .pointer (some ⟨w.heap.size + 1, 4 * c + 3, none⟩)) rfl (fun w' hw => by go_simp) ?_
          simp only [Act.put, List.setIfInBounds_toArray, List.set_cons_succ, List.set_cons_zero]
          refine rel_loadF (w.heap.size + 1) (4 * c + 3) y3 rfl rfl (fun w' hw => rb w' hw (4 * c + 3) _ D3.out) ?_
          simp only [Act.put, List.setIfInBounds_toArray, List.set_cons_succ, List.set_cons_zero]
          refine rel_call (f := 56) (args := #[.agg (a.map (Value.float .f64)).toArray, .int .i64 (i : Int), .float .f64 y0, .float .f64 y1, .float .f64 y2, .float .f64 y3]) rfl (fun w' hw => by go_simp) (fun w' hw => g162 (i0 := i) HM.out.1 HLT.out RY.out.1 RY.out.2.1 RY.out.2.2.1 RY.out.2.2.2 hw) (fun v hv => ?_)
          obtain ⟨s1, rfl, hs1⟩ := G162 (i0 := i) hv RY.out.1 RY.out.2.1 RY.out.2.2.1 RY.out.2.2.2
          simp only [Act.put, List.setIfInBounds_toArray, List.set_cons_succ, List.set_cons_zero]
          refine rel_val (v := .pointer (some ⟨g, 4 * c + i, none⟩)) rfl (fun w' hw => by go_simp) ?_
          simp only [Act.put, List.setIfInBounds_toArray, List.set_cons_succ, List.set_cons_zero]
          refine rel_nil ?_
          intro w4 hB4
          have W' := Lib.hid (tw_below hX.out hB4)
          have RLAST := Lib.hid hs1
          clear W0 N0 T0 L0 W1 N1 T1 L1 W2 N2 T2 L2 W3 N3 T3 L3 W4 N4 T4 L4 hB4 ra rb hX
          clear hk16
          have hk16 : Hid (4 * c + i < 16) := Lib.hid (by have := HC.out; have := HLT.out; omega)
          have W5 := Lib.hid (tw_set W'.out (4 * c + i) s1)
          have S5 := Lib.hid (pl_step hS.out hk16.out (by rw [timesP_ci (mp a) (mp b) HLT.out]; exact RLAST.out))
          have st := store1 W'.out.t (o := 4 * c + i) hk16.out s1
          go_wp2_with fail
          go_roundw
          case rel => exact ⟨i + 1, _, by go_num, Lib.hid (by have := HLT.out; omega), S5, W5⟩
          case measure => have := HLT.out; simp [intOf]; omega
        · have hki : ¬ (i : Int) < 4 := by omega
          have h4 : i = 4 := by have := hi.out; omega
          subst h4
          have HE : Hid (PLn 16 (timesP (mp a) (mp b)) os (4 * (c + 1))) := Lib.hid hS.out
          clear hlt
          go_wp2_with fail
          go_roundw
          case rel => exact ⟨c + 1, os, by have := HC.out; omega, by go_num, HE, hX⟩
          case measure => have := HC.out; simp [intOf]; omega
    · have hkc : ¬ (c : Int) < 4 := by omega
      have hc4 : c = 4 := by omega
      subst hc4
      have hS6 : Hid (PLn 16 (timesP (mp a) (mp b)) os 16) := hS
      have E1 := Lib.hid (size80L os hS6.out.1)
      have E2 := Lib.hid (size80A os hS6.out.1)
      have RR := Lib.hid hX.out.r
      have T0 := Lib.hid (thereA hX.out.o.t hS6.out.1)
      have T1 := Lib.hid (thereL hX.out.o.t hS6.out.1)
      have BB := Lib.hid (below_setCells hX.out.o.b (show w.heap.size ≤ w.heap.size + 1 + 1 by omega) 0 (os.map (Value.float .f64)))
      clear hlt hc hS hX
      go_wp2_with (first
        | (refine wpList_load_mid rfl 44 (.tmp 5) rfl g 0 rfl (os.map (Value.float .f64)) _ RR.out Try.underlying44 rfl E1.out ?_)
        | (refine wpList_store_mid rfl 44 (.tmp 4) (.tmp 43) rfl (w.heap.size + 1 + 1) 0 (os.map (Value.float .f64)).toArray rfl rfl T0.out E2.out (one16 os) ?_))
      refine bodyPost_ret (v := .agg (os.map (Value.float .f64)).toArray) (ret_row Try.prog Try.results35 rfl (os.map (Value.float .f64)) T1.out Try.underlying44 rfl E1.out) rfl ⟨⟨os, rfl, pl_MU hS6.out⟩, BB.out⟩
set_option maxRecDepth 100000 in
set_option maxHeartbeats 2000000 in
theorem k100 {a b : List Nat} (ha : MU a) (hb : MU b) (w : World) :
    Calls Try.prog 28 #[.agg (a.map (Value.float .f64)).toArray, .agg (b.map (Value.float .f64)).toArray] w fun e w' => RetM (timesP (mp a) (mp b)) e ∧ Below w.heap.size w w' := by
  have HM := Lib.hid (And.intro ha hb)
  clear ha hb
  go_enter Try.func28, Try.ntmps28
  go_upto_region 2 with fail
  refine wp_gen (fun wx => Hid (TW wx w (a.map (Value.float .f64)) (b.map (Value.float .f64)) 16 (w.heap.size + 1 + 1 + 1) 16 (List.replicate 16 0))) (Lib.hid (tw_entry w (a.map (Value.float .f64)) (b.map (Value.float .f64)))) ?_
  intro wc hW
  generalize hg : w.heap.size + 1 + 1 + 1 = g at *
  clear hg
  go_wp2_with fail
  go_loopw [6] (fun kk wx => ∃ (c : Nat) (os : List Nat), c ≤ 4 ∧ kk = .int .i64 (c : Nat) ∧ Hid (PLn 16 (timesP (mp a) (mp b)) os (4 * c)) ∧ Hid (TW wx w (a.map (Value.float .f64)) (b.map (Value.float .f64)) 16 g 16 os)) (fun kk _ => 4 - (intOf kk).toNat)
  case atStart => exact ⟨0, _, by omega, rfl, Lib.hid pl_start, hW⟩
  case round =>
    obtain ⟨c, os, hc, rfl, hS, hX⟩ := hrel
    clear hW
    by_cases hlt : c < 4
    · have hkc : (c : Int) < 4 := by omega
      have HC := Lib.hid hlt
      have hc0 : (0 : Int) ≤ (c : Int) := by omega
      clear hlt hc
      go_wp2_with fail
      go_loopw [7] (fun ii wx => ∃ (i : Nat) (os : List Nat), ii = .int .i64 (i : Nat) ∧ Hid (i ≤ 4) ∧ Hid (PLn 16 (timesP (mp a) (mp b)) os (4 * c + i)) ∧ Hid (TW wx w (a.map (Value.float .f64)) (b.map (Value.float .f64)) 16 g 16 os)) (fun ii _ => 4 - (intOf ii).toNat)
      case atStart => exact ⟨0, os, rfl, Lib.hid (by omega), hS, hX⟩
      case round =>
        obtain ⟨i, os, rfl, hi, hS, hX⟩ := hrel
        by_cases hlt : i < 4
        · have hki : (i : Int) < 4 := by omega
          have hk16 : (i : Int) < 16 := by omega
          have hi0 : (0 : Int) ≤ (i : Int) := by omega
          have HLT := Lib.hid hlt
          obtain ⟨y0, d0, s0⟩ := HM.out.2.get (j := 4 * c) (by have := HC.out; omega)
          obtain ⟨y1, d1, s1⟩ := HM.out.2.get (j := 4 * c + 1) (by have := HC.out; omega)
          obtain ⟨y2, d2, s2⟩ := HM.out.2.get (j := 4 * c + 2) (by have := HC.out; omega)
          obtain ⟨y3, d3, s3⟩ := HM.out.2.get (j := 4 * c + 3) (by have := HC.out; omega)
          have RY := Lib.hid (And.intro s0 (And.intro s1 (And.intro s2 s3)))
          have D0 := Lib.hid (map_get d0)
          have D1 := Lib.hid (map_get d1)
          have D2 := Lib.hid (map_get d2)
          have D3 := Lib.hid (map_get d3)
          clear d0 d1 d2 d3 s0 s1 s2 s3
          obtain ⟨x0, c0, r0⟩ := HM.out.1.get (j := i) (by omega)
          obtain ⟨x1, c1, r1⟩ := HM.out.1.get (j := 4 + i) (by omega)
          obtain ⟨x2, c2, r2⟩ := HM.out.1.get (j := 8 + i) (by omega)
          obtain ⟨x3, c3, r3⟩ := HM.out.1.get (j := 12 + i) (by omega)
          have RX := Lib.hid (And.intro r0 (And.intro r1 (And.intro r2 r3)))
          have C0 := Lib.hid (map_get c0)
          have C1 := Lib.hid (map_get c1)
          have C2 := Lib.hid (map_get c2)
          have C3 := Lib.hid (map_get c3)
          clear c0 c1 c2 c3 r0 r1 r2 r3
          clear hlt
          go_upto_region 8 with fail
          have ra : ∀ w', Below wr.heap.size wr w' → w'.rangeAt w.heap.size 0 (a.map (Value.float .f64)) := fun w' hw => range_below hX.out.o.r1 hw (by have := hX.out.o.lt; omega)
          have rb : ∀ w', Below wr.heap.size wr w' → w'.rangeAt (w.heap.size + 1) 0 (b.map (Value.float .f64)) := fun w' hw => range_below hX.out.o.r2 hw (by have := hX.out.o.lt; omega)
          have Z0 : Hid (IntKind.i64.wrap (4 * (c : Int)) = 4 * (c : Int) ∧ (0 : Int) ≤ 4 * (c : Int) ∧ (4 * (c : Int)).toNat = 4 * c ∧ 4 * (c : Int) < 16) := Lib.hid ⟨by rw [IntKind.wrap_i64]; omega, by omega, by omega, by omega⟩
          have Z1 : Hid (IntKind.i64.wrap (4 * (c : Int) + (i : Int)) = 4 * (c : Int) + (i : Int) ∧ (0 : Int) ≤ 4 * (c : Int) + (i : Int) ∧ (4 * (c : Int) + (i : Int)).toNat = 4 * c + i ∧ 4 * (c : Int) + (i : Int) < 16) := Lib.hid ⟨by rw [IntKind.wrap_i64]; omega, by omega, by omega, by omega⟩
          have Z2 : Hid (IntKind.i64.wrap (4 * (c : Int) + 1) = 4 * (c : Int) + 1 ∧ (0 : Int) ≤ 4 * (c : Int) + 1 ∧ (4 * (c : Int) + 1).toNat = 4 * c + 1 ∧ 4 * (c : Int) + 1 < 16) := Lib.hid ⟨by rw [IntKind.wrap_i64]; omega, by omega, by omega, by omega⟩
          have Z3 : Hid (IntKind.i64.wrap (4 * (c : Int) + 2) = 4 * (c : Int) + 2 ∧ (0 : Int) ≤ 4 * (c : Int) + 2 ∧ (4 * (c : Int) + 2).toNat = 4 * c + 2 ∧ 4 * (c : Int) + 2 < 16) := Lib.hid ⟨by rw [IntKind.wrap_i64]; omega, by omega, by omega, by omega⟩
          have Z4 : Hid (IntKind.i64.wrap (4 * (c : Int) + 3) = 4 * (c : Int) + 3 ∧ (0 : Int) ≤ 4 * (c : Int) + 3 ∧ (4 * (c : Int) + 3).toNat = 4 * c + 3 ∧ 4 * (c : Int) + 3 < 16) := Lib.hid ⟨by rw [IntKind.wrap_i64]; omega, by omega, by omega, by omega⟩
          have Z5 : Hid (IntKind.i64.wrap (4 + (i : Int)) = 4 + (i : Int) ∧ (0 : Int) ≤ 4 + (i : Int) ∧ (4 + (i : Int)).toNat = 4 + i ∧ 4 + (i : Int) < 16) := Lib.hid ⟨by rw [IntKind.wrap_i64]; omega, by omega, by omega, by omega⟩
          have Z6 : Hid (IntKind.i64.wrap (8 + (i : Int)) = 8 + (i : Int) ∧ (0 : Int) ≤ 8 + (i : Int) ∧ (8 + (i : Int)).toNat = 8 + i ∧ 8 + (i : Int) < 16) := Lib.hid ⟨by rw [IntKind.wrap_i64]; omega, by omega, by omega, by omega⟩
          have Z7 : Hid (IntKind.i64.wrap (12 + (i : Int)) = 12 + (i : Int) ∧ (0 : Int) ≤ 12 + (i : Int) ∧ (12 + (i : Int)).toNat = 12 + i ∧ 12 + (i : Int) < 16) := Lib.hid ⟨by rw [IntKind.wrap_i64]; omega, by omega, by omega, by omega⟩
          obtain ⟨W0, N0, T0, L0⟩ := Z0.out
          obtain ⟨W1, N1, T1, L1⟩ := Z1.out
          obtain ⟨W2, N2, T2, L2⟩ := Z2.out
          obtain ⟨W3, N3, T3, L3⟩ := Z3.out
          obtain ⟨W4, N4, T4, L4⟩ := Z4.out
          obtain ⟨W5, N5, T5, L5⟩ := Z5.out
          obtain ⟨W6, N6, T6, L6⟩ := Z6.out
          obtain ⟨W7, N7, T7, L7⟩ := Z7.out
          refine wp_region_rel 42 (fun w' => Below wr.heap.size wr w') GFR (by kernel_rfl) (by kernel_rfl) ((Below.refl _ _).drew) ?_
          simp only [List.take_succ_cons, List.take_zero, List.drop_succ_cons, List.drop_zero]
          refine rel_move (v := .int .i64 (c : Int)) rfl rfl ?_
          simp only [Act.put, List.setIfInBounds_toArray, List.set_cons_succ, List.set_cons_zero]
          refine rel_val (v := .int .i64 (4 * (c : Int))) rfl (fun w' hw => by go_simp) ?_
          simp only [Act.put, List.setIfInBounds_toArray, List.set_cons_succ, List.set_cons_zero]
          refine rel_move (v := .int .i64 (i : Int)) rfl rfl ?_
          simp only [Act.put, List.setIfInBounds_toArray, List.set_cons_succ, List.set_cons_zero]
          refine rel_val (v := .int .i64 ((4 * (c : Int)) + (i : Int))) rfl (fun w' hw => by go_simp) ?_
          simp only [Act.put, List.setIfInBounds_toArray, List.set_cons_succ, List.set_cons_zero]
          refine rel_move (v := .int .i64 (i : Int)) rfl rfl ?_
          simp only [Act.put, List.setIfInBounds_toArray, List.set_cons_succ, List.set_cons_zero]
          refine rel_val (v := .pointer (some ⟨w.heap.size, i, none⟩)) rfl (fun w' hw => by go_simp) ?_
          simp only [Act.put, List.setIfInBounds_toArray, List.set_cons_succ, List.set_cons_zero]
          refine rel_loadF (w.heap.size) (i) x0 rfl rfl (fun w' hw => ra w' hw (i) _ C0.out) ?_
          simp only [Act.put, List.setIfInBounds_toArray, List.set_cons_succ, List.set_cons_zero]
          refine rel_move (v := .int .i64 (i : Int)) rfl rfl ?_
          simp only [Act.put, List.setIfInBounds_toArray, List.set_cons_succ, List.set_cons_zero]
          refine rel_val (v := .int .i64 (4 + (i : Int))) rfl (fun w' hw => by go_simp) ?_
          simp only [Act.put, List.setIfInBounds_toArray, List.set_cons_succ, List.set_cons_zero]
          refine rel_val (v := .pointer (some ⟨w.heap.size, 4 + i, none⟩)) rfl (fun w' hw => by go_simp) ?_
          simp only [Act.put, List.setIfInBounds_toArray, List.set_cons_succ, List.set_cons_zero]
          refine rel_loadF (w.heap.size) (4 + i) x1 rfl rfl (fun w' hw => ra w' hw (4 + i) _ C1.out) ?_
          simp only [Act.put, List.setIfInBounds_toArray, List.set_cons_succ, List.set_cons_zero]
          refine rel_move (v := .int .i64 (i : Int)) rfl rfl ?_
          simp only [Act.put, List.setIfInBounds_toArray, List.set_cons_succ, List.set_cons_zero]
          refine rel_val (v := .int .i64 (8 + (i : Int))) rfl (fun w' hw => by go_simp) ?_
          simp only [Act.put, List.setIfInBounds_toArray, List.set_cons_succ, List.set_cons_zero]
          refine rel_val (v := .pointer (some ⟨w.heap.size, 8 + i, none⟩)) rfl (fun w' hw => by go_simp) ?_
          simp only [Act.put, List.setIfInBounds_toArray, List.set_cons_succ, List.set_cons_zero]
          refine rel_loadF (w.heap.size) (8 + i) x2 rfl rfl (fun w' hw => ra w' hw (8 + i) _ C2.out) ?_
          simp only [Act.put, List.setIfInBounds_toArray, List.set_cons_succ, List.set_cons_zero]
          refine rel_move (v := .int .i64 (i : Int)) rfl rfl ?_
          simp only [Act.put, List.setIfInBounds_toArray, List.set_cons_succ, List.set_cons_zero]
          refine rel_val (v := .int .i64 (12 + (i : Int))) rfl (fun w' hw => by go_simp) ?_
          simp only [Act.put, List.setIfInBounds_toArray, List.set_cons_succ, List.set_cons_zero]
          refine rel_val (v := .pointer (some ⟨w.heap.size, 12 + i, none⟩)) rfl (fun w' hw => by go_simp) ?_
          simp only [Act.put, List.setIfInBounds_toArray, List.set_cons_succ, List.set_cons_zero]
          refine rel_loadF (w.heap.size) (12 + i) x3 rfl rfl (fun w' hw => ra w' hw (12 + i) _ C3.out) ?_
          simp only [Act.put, List.setIfInBounds_toArray, List.set_cons_succ, List.set_cons_zero]
          refine rel_val (v := .agg #[.float .f64 x0, .float .f64 x1, .float .f64 x2, .float .f64 x3]) rfl (fun w' hw => by go_simp) ?_
          simp only [Act.put, List.setIfInBounds_toArray, List.set_cons_succ, List.set_cons_zero]
          refine rel_move (v := .int .i64 (c : Int)) rfl rfl ?_
          simp only [Act.put, List.setIfInBounds_toArray, List.set_cons_succ, List.set_cons_zero]
          refine rel_val (v := .int .i64 (4 * (c : Int))) rfl (fun w' hw => by go_simp) ?_
          simp only [Act.put, List.setIfInBounds_toArray, List.set_cons_succ, List.set_cons_zero]
          refine rel_val (v := .pointer (some ⟨w.heap.size + 1, 4 * c, none⟩)) rfl (fun w' hw => by go_simp) ?_
          simp only [Act.put, List.setIfInBounds_toArray, List.set_cons_succ, List.set_cons_zero]
          refine rel_loadF (w.heap.size + 1) (4 * c) y0 rfl rfl (fun w' hw => rb w' hw (4 * c) _ D0.out) ?_
          simp only [Act.put, List.setIfInBounds_toArray, List.set_cons_succ, List.set_cons_zero]
          refine rel_move (v := .int .i64 (c : Int)) rfl rfl ?_
          simp only [Act.put, List.setIfInBounds_toArray, List.set_cons_succ, List.set_cons_zero]
          refine rel_val (v := .int .i64 (4 * (c : Int))) rfl (fun w' hw => by go_simp) ?_
          simp only [Act.put, List.setIfInBounds_toArray, List.set_cons_succ, List.set_cons_zero]
          refine rel_val (v := .int .i64 ((4 * (c : Int)) + 1)) rfl (fun w' hw => by go_simp) ?_
          simp only [Act.put, List.setIfInBounds_toArray, List.set_cons_succ, List.set_cons_zero]
          refine rel_val (v := .pointer (some ⟨w.heap.size + 1, 4 * c + 1, none⟩)) rfl (fun w' hw => by go_simp) ?_
          simp only [Act.put, List.setIfInBounds_toArray, List.set_cons_succ, List.set_cons_zero]
          refine rel_loadF (w.heap.size + 1) (4 * c + 1) y1 rfl rfl (fun w' hw => rb w' hw (4 * c + 1) _ D1.out) ?_
          simp only [Act.put, List.setIfInBounds_toArray, List.set_cons_succ, List.set_cons_zero]
          refine rel_move (v := .int .i64 (c : Int)) rfl rfl ?_
          simp only [Act.put, List.setIfInBounds_toArray, List.set_cons_succ, List.set_cons_zero]
          refine rel_val (v := .int .i64 (4 * (c : Int))) rfl (fun w' hw => by go_simp) ?_
          simp only [Act.put, List.setIfInBounds_toArray, List.set_cons_succ, List.set_cons_zero]
          refine rel_val (v := .int .i64 ((4 * (c : Int)) + 2)) rfl (fun w' hw => by go_simp) ?_
          simp only [Act.put, List.setIfInBounds_toArray, List.set_cons_succ, List.set_cons_zero]
          refine rel_val (v := .pointer (some ⟨w.heap.size + 1, 4 * c + 2, none⟩)) rfl (fun w' hw => by go_simp) ?_
          simp only [Act.put, List.setIfInBounds_toArray, List.set_cons_succ, List.set_cons_zero]
          refine rel_loadF (w.heap.size + 1) (4 * c + 2) y2 rfl rfl (fun w' hw => rb w' hw (4 * c + 2) _ D2.out) ?_
          simp only [Act.put, List.setIfInBounds_toArray, List.set_cons_succ, List.set_cons_zero]
          refine rel_move (v := .int .i64 (c : Int)) rfl rfl ?_
          simp only [Act.put, List.setIfInBounds_toArray, List.set_cons_succ, List.set_cons_zero]
          refine rel_val (v := .int .i64 (4 * (c : Int))) rfl (fun w' hw => by go_simp) ?_
          simp only [Act.put, List.setIfInBounds_toArray, List.set_cons_succ, List.set_cons_zero]
          refine rel_val (v := .int .i64 ((4 * (c : Int)) + 3)) rfl (fun w' hw => by go_simp) ?_
          simp only [Act.put, List.setIfInBounds_toArray, List.set_cons_succ, List.set_cons_zero]
          refine rel_val (v := .pointer (some ⟨w.heap.size + 1, 4 * c + 3, none⟩)) rfl (fun w' hw => by go_simp) ?_
          simp only [Act.put, List.setIfInBounds_toArray, List.set_cons_succ, List.set_cons_zero]
          refine rel_loadF (w.heap.size + 1) (4 * c + 3) y3 rfl rfl (fun w' hw => rb w' hw (4 * c + 3) _ D3.out) ?_
          simp only [Act.put, List.setIfInBounds_toArray, List.set_cons_succ, List.set_cons_zero]
          refine rel_val (v := .agg #[.float .f64 y0, .float .f64 y1, .float .f64 y2, .float .f64 y3]) rfl (fun w' hw => by go_simp) ?_
          simp only [Act.put, List.setIfInBounds_toArray, List.set_cons_succ, List.set_cons_zero]
          refine rel_call (f := 52) (args := #[.agg #[.float .f64 x0, .float .f64 x1, .float .f64 x2, .float .f64 x3], .agg #[.float .f64 y0, .float .f64 y1, .float .f64 y2, .float .f64 y3]]) rfl (fun w' hw => by go_simp) (fun w' hw => g163 RX.out.1 RX.out.2.1 RX.out.2.2.1 RX.out.2.2.2 RY.out.1 RY.out.2.1 RY.out.2.2.1 RY.out.2.2.2 hw) (fun v hv => ?_)
          obtain ⟨s1, rfl, hs1⟩ := G163 hv RX.out.1 RX.out.2.1 RX.out.2.2.1 RX.out.2.2.2 RY.out.1 RY.out.2.1 RY.out.2.2.1 RY.out.2.2.2
          simp only [Act.put, List.setIfInBounds_toArray, List.set_cons_succ, List.set_cons_zero]
          refine rel_val (v := .pointer (some ⟨g, 4 * c + i, none⟩)) rfl (fun w' hw => by go_simp) ?_
          simp only [Act.put, List.setIfInBounds_toArray, List.set_cons_succ, List.set_cons_zero]
          refine rel_nil ?_
          intro w4 hB4
          have W' := Lib.hid (tw_below hX.out hB4)
          have RLAST := Lib.hid hs1
          clear W0 N0 T0 L0 W1 N1 T1 L1 W2 N2 T2 L2 W3 N3 T3 L3 W4 N4 T4 L4 W5 N5 T5 L5 W6 N6 T6 L6 W7 N7 T7 L7 hB4 ra rb hX
          clear hk16
          have hk16 : Hid (4 * c + i < 16) := Lib.hid (by have := HC.out; have := HLT.out; omega)
          have W5 := Lib.hid (tw_set W'.out (4 * c + i) s1)
          have S5 := Lib.hid (pl_step hS.out hk16.out (by rw [timesP_ci (mp a) (mp b) HLT.out]; exact RLAST.out))
          have st := store1 W'.out.t (o := 4 * c + i) hk16.out s1
          go_wp2_with fail
          go_roundw
          case rel => exact ⟨i + 1, _, by go_num, Lib.hid (by have := HLT.out; omega), S5, W5⟩
          case measure => have := HLT.out; simp [intOf]; omega
        · have hki : ¬ (i : Int) < 4 := by omega
          have h4 : i = 4 := by have := hi.out; omega
          subst h4
          have HE : Hid (PLn 16 (timesP (mp a) (mp b)) os (4 * (c + 1))) := Lib.hid hS.out
          clear hlt
          go_wp2_with fail
          go_roundw
          case rel => exact ⟨c + 1, os, by have := HC.out; omega, by go_num, HE, hX⟩
          case measure => have := HC.out; simp [intOf]; omega
    · have hkc : ¬ (c : Int) < 4 := by omega
      have hc4 : c = 4 := by omega
      subst hc4
      have hS6 : Hid (PLn 16 (timesP (mp a) (mp b)) os 16) := hS
      have E1 := Lib.hid (size80L os hS6.out.1)
      have E2 := Lib.hid (size80A os hS6.out.1)
      have RR := Lib.hid hX.out.r
      have T0 := Lib.hid (thereA hX.out.o.t hS6.out.1)
      have T1 := Lib.hid (thereL hX.out.o.t hS6.out.1)
      have BB := Lib.hid (below_setCells hX.out.o.b (show w.heap.size ≤ w.heap.size + 1 + 1 by omega) 0 (os.map (Value.float .f64)))
      clear hlt hc hS hX
      go_wp2_with (first
        | (refine wpList_load_mid rfl 44 (.tmp 5) rfl g 0 rfl (os.map (Value.float .f64)) _ RR.out Try.underlying44 rfl E1.out ?_)
        | (refine wpList_store_mid rfl 44 (.tmp 4) (.tmp 58) rfl (w.heap.size + 1 + 1) 0 (os.map (Value.float .f64)).toArray rfl rfl T0.out E2.out (one16 os) ?_))
      refine bodyPost_ret (v := .agg (os.map (Value.float .f64)).toArray) (ret_row Try.prog Try.results28 rfl (os.map (Value.float .f64)) T1.out Try.underlying44 rfl E1.out) rfl ⟨⟨os, rfl, pl_MU hS6.out⟩, BB.out⟩
end Go.Proofs.Ytedkbjimofiphaa
