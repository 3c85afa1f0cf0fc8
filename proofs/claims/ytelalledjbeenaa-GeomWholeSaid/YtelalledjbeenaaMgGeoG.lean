/- Matrices: a row times four numbers: printed by geo6.py. less, two; what rows may answer; Apply: printed by geo7.py. -/
import Derived.Test.YtelalledjbeenaaGeoF
namespace Go.Proofs.Ytelalledjbeenaa
open Go.RowKit Fl

/-- sixteen words -/
def MU (ms : List Nat) : Prop := ms.length = 16 ∧ ∀ x ∈ ms, U x
/-- their places -/
def mp (ms : List Nat) (j : Nat) : Int := pl (ms.getD j 0)
theorem MU.get {ms : List Nat} (h : MU ms) {j : Nat} (hj : j < 16) : ∃ x, ms[j]? = some x ∧ RV x (mp ms j) := by
  have hl : j < ms.length := by rw [h.1]; exact hj
  refine ⟨ms[j], List.getElem?_eq_getElem hl, h.2 _ (List.getElem_mem hl), ?_⟩
  unfold mp
  rw [List.getD_eq_getElem?_getD, List.getElem?_eq_getElem hl]; rfl
theorem map_get {ms : List Nat} {j x : Nat} (h : ms[j]? = some x) : (ms.map (Value.float .f64))[j]? = some (.float .f64 x) := by rw [List.getElem?_map, h]; rfl
def rowP (m : Nat → Int) (i : Nat) (x y z w : Int) : Int :=
  opP .add (opP .add (opP .add (opP .mul (m i) x) (opP .mul (m (4 + i)) y)) (opP .mul (m (8 + i)) z)) (opP .mul (m (12 + i)) w)
theorem size80 : (Try.prog.info? 80).map (·.size) = some 16 := by kernel_rfl

set_option maxRecDepth 100000 in
set_option maxHeartbeats 2000000 in
theorem k162 {ms : List Nat} {i x y z u : Nat} {X Y Z W : Int} (hm : MU ms) (hi : i < 4) (hx : RV x X) (hy : RV y Y) (hz : RV z Z) (hu : RV u W) (w : World) :
    Calls Try.prog 162 #[.agg (ms.map (Value.float .f64)).toArray, .int .i64 (i : Int), .float .f64 x, .float .f64 y, .float .f64 z, .float .f64 u] w fun e w' => RetR (rowP (mp ms) i X Y Z W) e ∧ Below w.heap.size w w' := by
  obtain ⟨m0, c0, r0⟩ := hm.get (j := i) (by omega)
  obtain ⟨m1, c1, r1⟩ := hm.get (j := 4 + i) (by omega)
  obtain ⟨m2, c2, r2⟩ := hm.get (j := 8 + i) (by omega)
  obtain ⟨m3, c3, r3⟩ := hm.get (j := 12 + i) (by omega)
  have C0 := Lib.hid (map_get c0)
  have C1 := Lib.hid (map_get c1)
  have C2 := Lib.hid (map_get c2)
  have C3 := Lib.hid (map_get c3)
  have RM := Lib.hid (And.intro r0 (And.intro r1 (And.intro r2 r3)))
  have RX := Lib.hid (And.intro hx (And.intro hy (And.intro hz hu)))
  have i0 : (0 : Int) ≤ (i : Int) := by omega
  have i4 : (i : Int) < 16 := by omega
  have i5 : 4 + (i : Int) < 16 := by omega
  have i6 : 8 + (i : Int) < 16 := by omega
  have i7 : 12 + (i : Int) < 16 := by omega
  clear c0 c1 c2 c3 r0 r1 r2 r3 hx hy hz hu hm hi
  go_enter Try.func162, Try.ntmps162
  go_wp2_with fail
  refine wp_gen (fun wx => Hid (wx.rangeAt w.heap.size 0 (ms.map (Value.float .f64)) ∧ Below w.heap.size w wx ∧ w.heap.size < wx.heap.size)) (Lib.hid ⟨range_new w _ 80, (Below.refl _ _).alloc (Nat.le_refl _) _, by simp⟩) ?_
  intro wc hW
  have ra : ∀ w', Below wc.heap.size wc w' → w'.rangeAt w.heap.size 0 (ms.map (Value.float .f64)) := fun w' hw => range_below hW.out.1 hw hW.out.2.2
  have W1 : IntKind.i64.wrap (4 + (i : Int)) = 4 + (i : Int) := by rw [IntKind.wrap_i64]; omega
  have N1 : (0 : Int) ≤ 4 + (i : Int) := by omega
  have T1 : (4 + (i : Int)).toNat = 4 + i := by omega
  refine wp_region_rel 13 (fun w' => Below wc.heap.size wc w') GEO (by kernel_rfl) (by kernel_rfl) ((Below.refl _ _).drew) ?_
  simp only [List.take_succ_cons, List.take_zero, List.drop_succ_cons, List.drop_zero]
  refine rel_move (v := .int .i64 (i : Int)) rfl rfl ?_
  simp only [Act.put, List.setIfInBounds_toArray, List.set_cons_succ, List.set_cons_zero]
  refine rel_val (v := .pointer (some ⟨w.heap.size, i, none⟩)) rfl (fun w' hw => by go_simp) ?_
  simp only [Act.put, List.setIfInBounds_toArray, List.set_cons_succ, List.set_cons_zero]
  refine rel_loadF (w.heap.size) (i) m0 rfl rfl (fun w' hw => ra w' hw (i) _ C0.out) ?_
  simp only [Act.put, List.setIfInBounds_toArray, List.set_cons_succ, List.set_cons_zero]
  refine rel_move (v := .float .f64 x) rfl rfl ?_
  simp only [Act.put, List.setIfInBounds_toArray, List.set_cons_succ, List.set_cons_zero]
  refine rel_fop (w0 := wc) (op := .mul) rfl rfl rfl RM.out.1 RX.out.1 rfl ?_
  intro s1 hs1
  simp only [Act.put, List.setIfInBounds_toArray, List.set_cons_succ, List.set_cons_zero]
  refine rel_move (v := .int .i64 (i : Int)) rfl rfl ?_
  simp only [Act.put, List.setIfInBounds_toArray, List.set_cons_succ, List.set_cons_zero]
  refine rel_val (v := .int .i64 (4 + (i : Int))) rfl (fun w' hw => by go_simp) ?_
  simp only [Act.put, List.setIfInBounds_toArray, List.set_cons_succ, List.set_cons_zero]
  refine rel_val (v := .pointer (some ⟨w.heap.size, 4 + i, none⟩)) rfl (fun w' hw => by go_simp) ?_
  simp only [Act.put, List.setIfInBounds_toArray, List.set_cons_succ, List.set_cons_zero]
  refine rel_loadF (w.heap.size) (4 + i) m1 rfl rfl (fun w' hw => ra w' hw (4 + i) _ C1.out) ?_
  simp only [Act.put, List.setIfInBounds_toArray, List.set_cons_succ, List.set_cons_zero]
  refine rel_move (v := .float .f64 y) rfl rfl ?_
  simp only [Act.put, List.setIfInBounds_toArray, List.set_cons_succ, List.set_cons_zero]
  refine rel_fop (w0 := wc) (op := .mul) rfl rfl rfl RM.out.2.1 RX.out.2.1 rfl ?_
  intro s2 hs2
  simp only [Act.put, List.setIfInBounds_toArray, List.set_cons_succ, List.set_cons_zero]
  refine rel_fop (w0 := wc) (op := .add) rfl rfl rfl hs1 hs2 rfl ?_
  intro s3 hs3
  simp only [Act.put, List.setIfInBounds_toArray, List.set_cons_succ, List.set_cons_zero]
  refine rel_assign (v := .float .f64 s3) rfl rfl ?_
  simp only [Act.put, List.setIfInBounds_toArray, List.set_cons_succ, List.set_cons_zero]
  refine rel_nil ?_
  intro w3 hB3
  have R1 := Lib.hid hs3
  have B3 := Lib.hid (hW.out.2.1.trans (hB3.mono (Nat.le_of_lt hW.out.2.2)))
  have kk := ra w3 hB3
  have k2 : w3.cell? ⟨w.heap.size, 8 + i, none⟩ = some (.float .f64 m2) := by have := kk (8 + i) _ C2.out; rwa [Nat.zero_add] at this
  have k3 : w3.cell? ⟨w.heap.size, 12 + i, none⟩ = some (.float .f64 m3) := by have := kk (12 + i) _ C3.out; rwa [Nat.zero_add] at this
  have hA := fun x y w => run_fop (P := Try.prog) .add rfl 24 x y w
  have hM := fun x y w => run_fop (P := Try.prog) .mul rfl 24 x y w
  have BD := Lib.hid (fun n => Bd B3.out n)
  clear hB3 kk ra hW W1 N1 T1
  go_wp2
  go_ret
  exact ⟨⟨_, rfl, RV.fop .add (RV.fop .add R1.out (RV.fop .mul RM.out.2.2.1 RX.out.2.2.1 _) _) (RV.fop .mul RM.out.2.2.2 RX.out.2.2.2 _) _⟩, BD.out _⟩
end Go.Proofs.Ytelalledjbeenaa

namespace Go.Proofs.Ytelalledjbeenaa
open Go.RowKit Fl

def lessP (a b c d : Int) : Int := opP .sub (opP .mul a b) (opP .mul c d)
theorem size60 : (Try.prog.info? 60).map (·.size) = some 4 := by kernel_rfl
theorem mapF_inj {a b : List Nat} (h : Value.agg (a.map (Value.float .f64)).toArray = Value.agg (b.map (Value.float .f64)).toArray) : a = b := by
  injection h with h
  have h := congrArg Array.toList h
  have h : a.map (Value.float .f64) = b.map (Value.float .f64) := h
  have hi : ∀ x y : Nat, Value.float .f64 x = Value.float .f64 y → x = y := fun x y h => by injection h
  induction a generalizing b with
  | nil => cases b with
    | nil => rfl
    | cons _ _ => simp at h
  | cons x r ih =>
    cases b with
    | nil => simp at h
    | cons y s =>
      rw [List.map_cons, List.map_cons, List.cons.injEq] at h
      rename_i h1 h2
      rw [hi _ _ h.1, ih (b := s) (by rw [h.2]) (by rw [h.2]) h.2]

set_option maxRecDepth 100000 in
set_option maxHeartbeats 2000000 in
theorem k158 {a b c d : Nat} {A B C D : Int} (ha : RV a A) (hb : RV b B) (hc : RV c C) (hd : RV d D) (w : World) :
    Calls Try.prog 158 #[.float .f64 a, .float .f64 b, .float .f64 c, .float .f64 d] w fun e w' => RetR (lessP A B C D) e ∧ Below w.heap.size w w' := by
  have H := Lib.hid (And.intro ha (And.intro hb (And.intro hc hd)))
  have hA := fun x y w => run_fop (P := Try.prog) .sub rfl 24 x y w
  have hM := fun x y w => run_fop (P := Try.prog) .mul rfl 24 x y w
  have BD := Lib.hid (fun n => Bd (Below.refl w.heap.size w) n)
  clear ha hb hc hd
  go_enter Try.func158, Try.ntmps158
  go_wp2
  go_ret
  exact ⟨⟨_, rfl, RV.fop .sub (RV.fop .mul H.out.1 H.out.2.1 _) (RV.fop .mul H.out.2.2.1 H.out.2.2.2 _) _⟩, BD.out _⟩
set_option maxRecDepth 100000 in
set_option maxHeartbeats 2000000 in
theorem k184 {a b c d : Nat} {A B C D : Int} (ha : RV a A) (hb : RV b B) (hc : RV c C) (hd : RV d D) (w : World) :
    Calls Try.prog 184 #[.float .f64 a, .float .f64 b, .float .f64 c, .float .f64 d] w fun e w' => RetR (lessP A B C D) e ∧ Below w.heap.size w w' := by
  have H := Lib.hid (And.intro ha (And.intro hb (And.intro hc hd)))
  have hA := fun x y w => run_fop (P := Try.prog) .sub rfl 24 x y w
  have hM := fun x y w => run_fop (P := Try.prog) .mul rfl 24 x y w
  have BD := Lib.hid (fun n => Bd (Below.refl w.heap.size w) n)
  clear ha hb hc hd
  go_enter Try.func184, Try.ntmps184
  go_wp2
  go_ret
  exact ⟨⟨_, rfl, RV.fop .sub (RV.fop .mul H.out.1 H.out.2.1 _) (RV.fop .mul H.out.2.2.1 H.out.2.2.2 _) _⟩, BD.out _⟩
def GEM (f : FuncId) (args : Array Value) (v : Value) : Prop :=
  match f with
  | 158 => ∀ (a0 a1 a2 a3 : Nat), args = #[.float .f64 a0, .float .f64 a1, .float .f64 a2, .float .f64 a3] → ∃ r : Nat, v = .float .f64 r ∧ RV r (lessP (pl a0) (pl a1) (pl a2) (pl a3))
  | 162 => ∀ (m0 : List Nat) (i0 a0 a1 a2 a3 : Nat), args = #[.agg (m0.map (Value.float .f64)).toArray, .int .i64 (i0 : Int), .float .f64 a0, .float .f64 a1, .float .f64 a2, .float .f64 a3] → ∃ r : Nat, v = .float .f64 r ∧ RV r (rowP (mp m0) i0 (pl a0) (pl a1) (pl a2) (pl a3))
  | 184 => ∀ (a0 a1 a2 a3 : Nat), args = #[.float .f64 a0, .float .f64 a1, .float .f64 a2, .float .f64 a3] → ∃ r : Nat, v = .float .f64 r ∧ RV r (lessP (pl a0) (pl a1) (pl a2) (pl a3))
  | _ => True

theorem g158 {w0 w : World} {a0 a1 a2 a3 : Nat} {P0 P1 P2 P3 : Int} (h0 : RV a0 P0) (h1 : RV a1 P1) (h2 : RV a2 P2) (h3 : RV a3 P3) (hw : Below w0.heap.size w0 w) : Calls Try.prog 158 #[.float .f64 a0, .float .f64 a1, .float .f64 a2, .float .f64 a3] w fun e w' => ∃ v, e = .returned v ∧ GEM 158 #[.float .f64 a0, .float .f64 a1, .float .f64 a2, .float .f64 a3] v ∧ Below w0.heap.size w0 w' :=
  (k158 (RV.self h0.1) (RV.self h1.1) (RV.self h2.1) (RV.self h3.1) w).mono fun e w' ⟨⟨r, he, hr⟩, hb⟩ => ⟨_, he, fun ba0 ba1 ba2 ba3 hh => by cases hh; exact ⟨r, rfl, hr⟩, below_trans hw hb⟩
theorem G158 {a0 a1 a2 a3 : Nat} {P0 P1 P2 P3 : Int} {v : Value} (hv : GEM 158 #[.float .f64 a0, .float .f64 a1, .float .f64 a2, .float .f64 a3] v) (h0 : RV a0 P0) (h1 : RV a1 P1) (h2 : RV a2 P2) (h3 : RV a3 P3) : ∃ r : Nat, v = .float .f64 r ∧ RV r (lessP P0 P1 P2 P3) := by
  obtain ⟨_, rfl⟩ := h0
  obtain ⟨_, rfl⟩ := h1
  obtain ⟨_, rfl⟩ := h2
  obtain ⟨_, rfl⟩ := h3
  exact hv _ _ _ _ rfl
theorem g162 {w0 w : World} {m0 : List Nat} {i0 a0 a1 a2 a3 : Nat} {P0 P1 P2 P3 : Int} (hm0 : MU m0) (hi0 : i0 < 4) (h0 : RV a0 P0) (h1 : RV a1 P1) (h2 : RV a2 P2) (h3 : RV a3 P3) (hw : Below w0.heap.size w0 w) : Calls Try.prog 162 #[.agg (m0.map (Value.float .f64)).toArray, .int .i64 (i0 : Int), .float .f64 a0, .float .f64 a1, .float .f64 a2, .float .f64 a3] w fun e w' => ∃ v, e = .returned v ∧ GEM 162 #[.agg (m0.map (Value.float .f64)).toArray, .int .i64 (i0 : Int), .float .f64 a0, .float .f64 a1, .float .f64 a2, .float .f64 a3] v ∧ Below w0.heap.size w0 w' :=
  (k162 hm0 hi0 (RV.self h0.1) (RV.self h1.1) (RV.self h2.1) (RV.self h3.1) w).mono fun e w' ⟨⟨r, he, hr⟩, hb⟩ => ⟨_, he, fun bm0 bi0 ba0 ba1 ba2 ba3 hh => by
    simp only [Array.mk.injEq, List.cons.injEq, and_true, Value.float.injEq, Value.int.injEq, true_and, Int.ofNat_inj] at hh
    obtain ⟨e0, e1, e2, e3, e4, e5⟩ := hh
    obtain rfl := mapF_inj e0
    subst e1
    subst e2
    subst e3
    subst e4
    subst e5
    exact ⟨r, rfl, hr⟩, below_trans hw hb⟩
theorem G162 {m0 : List Nat} {i0 a0 a1 a2 a3 : Nat} {P0 P1 P2 P3 : Int} {v : Value} (hv : GEM 162 #[.agg (m0.map (Value.float .f64)).toArray, .int .i64 (i0 : Int), .float .f64 a0, .float .f64 a1, .float .f64 a2, .float .f64 a3] v) (h0 : RV a0 P0) (h1 : RV a1 P1) (h2 : RV a2 P2) (h3 : RV a3 P3) : ∃ r : Nat, v = .float .f64 r ∧ RV r (rowP (mp m0) i0 P0 P1 P2 P3) := by
  obtain ⟨_, rfl⟩ := h0
  obtain ⟨_, rfl⟩ := h1
  obtain ⟨_, rfl⟩ := h2
  obtain ⟨_, rfl⟩ := h3
  exact hv _ _ _ _ _ _ rfl
theorem g184 {w0 w : World} {a0 a1 a2 a3 : Nat} {P0 P1 P2 P3 : Int} (h0 : RV a0 P0) (h1 : RV a1 P1) (h2 : RV a2 P2) (h3 : RV a3 P3) (hw : Below w0.heap.size w0 w) : Calls Try.prog 184 #[.float .f64 a0, .float .f64 a1, .float .f64 a2, .float .f64 a3] w fun e w' => ∃ v, e = .returned v ∧ GEM 184 #[.float .f64 a0, .float .f64 a1, .float .f64 a2, .float .f64 a3] v ∧ Below w0.heap.size w0 w' :=
  (k184 (RV.self h0.1) (RV.self h1.1) (RV.self h2.1) (RV.self h3.1) w).mono fun e w' ⟨⟨r, he, hr⟩, hb⟩ => ⟨_, he, fun ba0 ba1 ba2 ba3 hh => by cases hh; exact ⟨r, rfl, hr⟩, below_trans hw hb⟩
theorem G184 {a0 a1 a2 a3 : Nat} {P0 P1 P2 P3 : Int} {v : Value} (hv : GEM 184 #[.float .f64 a0, .float .f64 a1, .float .f64 a2, .float .f64 a3] v) (h0 : RV a0 P0) (h1 : RV a1 P1) (h2 : RV a2 P2) (h3 : RV a3 P3) : ∃ r : Nat, v = .float .f64 r ∧ RV r (lessP P0 P1 P2 P3) := by
  obtain ⟨_, rfl⟩ := h0
  obtain ⟨_, rfl⟩ := h1
  obtain ⟨_, rfl⟩ := h2
  obtain ⟨_, rfl⟩ := h3
  exact hv _ _ _ _ rfl
set_option maxRecDepth 100000 in
set_option maxHeartbeats 2000000 in
theorem k101 {ms : List Nat} {x y z u : Nat} {X Y Z W : Int} (hm : MU ms) (hx : RV x X) (hy : RV y Y) (hz : RV z Z) (hu : RV u W) (w : World) :
    Calls Try.prog 101 #[.agg (ms.map (Value.float .f64)).toArray, .agg #[.float .f64 x, .float .f64 y, .float .f64 z, .float .f64 u]] w fun e w' => RetQ (rowP (mp ms) 0 X Y Z W) (rowP (mp ms) 1 X Y Z W) (rowP (mp ms) 2 X Y Z W) (rowP (mp ms) 3 X Y Z W) e ∧ Below w.heap.size w w' := by
  have HM := Lib.hid hm
  have HP := Lib.hid (And.intro hx (And.intro hy (And.intro hz hu)))
  clear hm hx hy hz hu
  go_enter Try.func101, Try.ntmps101
  go_wp2_with fail
  refine wp_gen (fun wx => Hid (Two wx w (ms.map (Value.float .f64)) [.float .f64 x, .float .f64 y, .float .f64 z, .float .f64 u] 4)) (Lib.hid (two_entry w (ms.map (Value.float .f64)) [.float .f64 x, .float .f64 y, .float .f64 z, .float .f64 u] _ 80 60 60 4 rfl)) ?_
  intro wc hW
  have ra : ∀ w', Below wc.heap.size wc w' → w'.rangeAt w.heap.size 0 (ms.map (Value.float .f64)) := fun w' hw => range_below hW.out.r1 hw (by have := hW.out.lt; omega)
  have rb : ∀ w', Below wc.heap.size wc w' → w'.rangeAt (w.heap.size + 1) 0 [.float .f64 x, .float .f64 y, .float .f64 z, .float .f64 u] := fun w' hw => range_below hW.out.r2 hw (by have := hW.out.lt; omega)
  have RT := Lib.hid (fun w' (hw : Below wc.heap.size wc w') => there_below hW.out.t hw (by have := hW.out.lt; omega))
  have BW := Lib.hid hW.out.b
  have LW := Lib.hid hW.out.lt
  clear hW
  refine wp_region_rel 41 (fun w' => Below wc.heap.size wc w') GEM (by kernel_rfl) (by kernel_rfl) ((Below.refl _ _).drew) ?_
  simp only [List.take_succ_cons, List.take_zero, List.drop_succ_cons, List.drop_zero]
  refine rel_load_row (w.heap.size) 0 (ms.map (Value.float .f64)) _ rfl rfl ra Try.underlying80 rfl (by rw [List.length_map, HM.out.1]; exact size80) ?_
  simp only [Act.put, List.setIfInBounds_toArray, List.set_cons_succ, List.set_cons_zero]
  refine rel_val (v := .pointer (some ⟨w.heap.size + 1, 0, none⟩)) rfl (fun w' hw => by go_simp) ?_
  simp only [Act.put, List.setIfInBounds_toArray, List.set_cons_succ, List.set_cons_zero]
  refine rel_loadF (w.heap.size + 1) 0 x rfl rfl (fun w' hw => rb w' hw 0 _ rfl) ?_
  simp only [Act.put, List.setIfInBounds_toArray, List.set_cons_succ, List.set_cons_zero]
  refine rel_val (v := .pointer (some ⟨w.heap.size + 1, 1, none⟩)) rfl (fun w' hw => by go_simp) ?_
  simp only [Act.put, List.setIfInBounds_toArray, List.set_cons_succ, List.set_cons_zero]
  refine rel_loadF (w.heap.size + 1) 1 y rfl rfl (fun w' hw => rb w' hw 1 _ rfl) ?_
  simp only [Act.put, List.setIfInBounds_toArray, List.set_cons_succ, List.set_cons_zero]
  refine rel_val (v := .pointer (some ⟨w.heap.size + 1, 2, none⟩)) rfl (fun w' hw => by go_simp) ?_
  simp only [Act.put, List.setIfInBounds_toArray, List.set_cons_succ, List.set_cons_zero]
  refine rel_loadF (w.heap.size + 1) 2 z rfl rfl (fun w' hw => rb w' hw 2 _ rfl) ?_
  simp only [Act.put, List.setIfInBounds_toArray, List.set_cons_succ, List.set_cons_zero]
  refine rel_val (v := .pointer (some ⟨w.heap.size + 1, 3, none⟩)) rfl (fun w' hw => by go_simp) ?_
  simp only [Act.put, List.setIfInBounds_toArray, List.set_cons_succ, List.set_cons_zero]
  refine rel_loadF (w.heap.size + 1) 3 u rfl rfl (fun w' hw => rb w' hw 3 _ rfl) ?_
  simp only [Act.put, List.setIfInBounds_toArray, List.set_cons_succ, List.set_cons_zero]
  refine rel_call (f := 162) (args := #[.agg (ms.map (Value.float .f64)).toArray, .int .i64 0, .float .f64 x, .float .f64 y, .float .f64 z, .float .f64 u]) rfl (fun w' hw => by go_simp) (fun w' hw => g162 (i0 := 0) HM.out (by decide) HP.out.1 HP.out.2.1 HP.out.2.2.1 HP.out.2.2.2 hw) (fun v hv => ?_)
  obtain ⟨r1, rfl, hr1⟩ := G162 (i0 := 0) hv HP.out.1 HP.out.2.1 HP.out.2.2.1 HP.out.2.2.2
  simp only [Act.put, List.setIfInBounds_toArray, List.set_cons_succ, List.set_cons_zero]
  refine rel_load_row (w.heap.size) 0 (ms.map (Value.float .f64)) _ rfl rfl ra Try.underlying80 rfl (by rw [List.length_map, HM.out.1]; exact size80) ?_
  simp only [Act.put, List.setIfInBounds_toArray, List.set_cons_succ, List.set_cons_zero]
  refine rel_val (v := .pointer (some ⟨w.heap.size + 1, 0, none⟩)) rfl (fun w' hw => by go_simp) ?_
  simp only [Act.put, List.setIfInBounds_toArray, List.set_cons_succ, List.set_cons_zero]
  refine rel_loadF (w.heap.size + 1) 0 x rfl rfl (fun w' hw => rb w' hw 0 _ rfl) ?_
  simp only [Act.put, List.setIfInBounds_toArray, List.set_cons_succ, List.set_cons_zero]
  refine rel_val (v := .pointer (some ⟨w.heap.size + 1, 1, none⟩)) rfl (fun w' hw => by go_simp) ?_
  simp only [Act.put, List.setIfInBounds_toArray, List.set_cons_succ, List.set_cons_zero]
  refine rel_loadF (w.heap.size + 1) 1 y rfl rfl (fun w' hw => rb w' hw 1 _ rfl) ?_
  simp only [Act.put, List.setIfInBounds_toArray, List.set_cons_succ, List.set_cons_zero]
  refine rel_val (v := .pointer (some ⟨w.heap.size + 1, 2, none⟩)) rfl (fun w' hw => by go_simp) ?_
  simp only [Act.put, List.setIfInBounds_toArray, List.set_cons_succ, List.set_cons_zero]
  refine rel_loadF (w.heap.size + 1) 2 z rfl rfl (fun w' hw => rb w' hw 2 _ rfl) ?_
  simp only [Act.put, List.setIfInBounds_toArray, List.set_cons_succ, List.set_cons_zero]
  refine rel_val (v := .pointer (some ⟨w.heap.size + 1, 3, none⟩)) rfl (fun w' hw => by go_simp) ?_
  simp only [Act.put, List.setIfInBounds_toArray, List.set_cons_succ, List.set_cons_zero]
  refine rel_loadF (w.heap.size + 1) 3 u rfl rfl (fun w' hw => rb w' hw 3 _ rfl) ?_
  simp only [Act.put, List.setIfInBounds_toArray, List.set_cons_succ, List.set_cons_zero]
  refine rel_call (f := 162) (args := #[.agg (ms.map (Value.float .f64)).toArray, .int .i64 1, .float .f64 x, .float .f64 y, .float .f64 z, .float .f64 u]) rfl (fun w' hw => by go_simp) (fun w' hw => g162 (i0 := 1) HM.out (by decide) HP.out.1 HP.out.2.1 HP.out.2.2.1 HP.out.2.2.2 hw) (fun v hv => ?_)
  obtain ⟨r2, rfl, hr2⟩ := G162 (i0 := 1) hv HP.out.1 HP.out.2.1 HP.out.2.2.1 HP.out.2.2.2
  simp only [Act.put, List.setIfInBounds_toArray, List.set_cons_succ, List.set_cons_zero]
  refine rel_load_row (w.heap.size) 0 (ms.map (Value.float .f64)) _ rfl rfl ra Try.underlying80 rfl (by rw [List.length_map, HM.out.1]; exact size80) ?_
  simp only [Act.put, List.setIfInBounds_toArray, List.set_cons_succ, List.set_cons_zero]
  refine rel_val (v := .pointer (some ⟨w.heap.size + 1, 0, none⟩)) rfl (fun w' hw => by go_simp) ?_
  simp only [Act.put, List.setIfInBounds_toArray, List.set_cons_succ, List.set_cons_zero]
  refine rel_loadF (w.heap.size + 1) 0 x rfl rfl (fun w' hw => rb w' hw 0 _ rfl) ?_
  simp only [Act.put, List.setIfInBounds_toArray, List.set_cons_succ, List.set_cons_zero]
  refine rel_val (v := .pointer (some ⟨w.heap.size + 1, 1, none⟩)) rfl (fun w' hw => by go_simp) ?_
  simp only [Act.put, List.setIfInBounds_toArray, List.set_cons_succ, List.set_cons_zero]
  refine rel_loadF (w.heap.size + 1) 1 y rfl rfl (fun w' hw => rb w' hw 1 _ rfl) ?_
  simp only [Act.put, List.setIfInBounds_toArray, List.set_cons_succ, List.set_cons_zero]
  refine rel_val (v := .pointer (some ⟨w.heap.size + 1, 2, none⟩)) rfl (fun w' hw => by go_simp) ?_
  simp only [Act.put, List.setIfInBounds_toArray, List.set_cons_succ, List.set_cons_zero]
  refine rel_loadF (w.heap.size + 1) 2 z rfl rfl (fun w' hw => rb w' hw 2 _ rfl) ?_
  simp only [Act.put, List.setIfInBounds_toArray, List.set_cons_succ, List.set_cons_zero]
  refine rel_val (v := .pointer (some ⟨w.heap.size + 1, 3, none⟩)) rfl (fun w' hw => by go_simp) ?_
  simp only [Act.put, List.setIfInBounds_toArray, List.set_cons_succ, List.set_cons_zero]
  refine rel_loadF (w.heap.size + 1) 3 u rfl rfl (fun w' hw => rb w' hw 3 _ rfl) ?_
  simp only [Act.put, List.setIfInBounds_toArray, List.set_cons_succ, List.set_cons_zero]
  refine rel_call (f := 162) (args := #[.agg (ms.map (Value.float .f64)).toArray, .int .i64 2, .float .f64 x, .float .f64 y, .float .f64 z, .float .f64 u]) rfl (fun w' hw => by go_simp) (fun w' hw => g162 (i0 := 2) HM.out (by decide) HP.out.1 HP.out.2.1 HP.out.2.2.1 HP.out.2.2.2 hw) (fun v hv => ?_)
  obtain ⟨r3, rfl, hr3⟩ := G162 (i0 := 2) hv HP.out.1 HP.out.2.1 HP.out.2.2.1 HP.out.2.2.2
  simp only [Act.put, List.setIfInBounds_toArray, List.set_cons_succ, List.set_cons_zero]
  refine rel_load_row (w.heap.size) 0 (ms.map (Value.float .f64)) _ rfl rfl ra Try.underlying80 rfl (by rw [List.length_map, HM.out.1]; exact size80) ?_
  simp only [Act.put, List.setIfInBounds_toArray, List.set_cons_succ, List.set_cons_zero]
  refine rel_val (v := .pointer (some ⟨w.heap.size + 1, 0, none⟩)) rfl (fun w' hw => by go_simp) ?_
  simp only [Act.put, List.setIfInBounds_toArray, List.set_cons_succ, List.set_cons_zero]
  refine rel_loadF (w.heap.size + 1) 0 x rfl rfl (fun w' hw => rb w' hw 0 _ rfl) ?_
  simp only [Act.put, List.setIfInBounds_toArray, List.set_cons_succ, List.set_cons_zero]
  refine rel_val (v := .pointer (some ⟨w.heap.size + 1, 1, none⟩)) rfl (fun w' hw => by go_simp) ?_
  simp only [Act.put, List.setIfInBounds_toArray, List.set_cons_succ, List.set_cons_zero]
  refine rel_loadF (w.heap.size + 1) 1 y rfl rfl (fun w' hw => rb w' hw 1 _ rfl) ?_
  simp only [Act.put, List.setIfInBounds_toArray, List.set_cons_succ, List.set_cons_zero]
  refine rel_val (v := .pointer (some ⟨w.heap.size + 1, 2, none⟩)) rfl (fun w' hw => by go_simp) ?_
  simp only [Act.put, List.setIfInBounds_toArray, List.set_cons_succ, List.set_cons_zero]
  refine rel_loadF (w.heap.size + 1) 2 z rfl rfl (fun w' hw => rb w' hw 2 _ rfl) ?_
  simp only [Act.put, List.setIfInBounds_toArray, List.set_cons_succ, List.set_cons_zero]
  refine rel_val (v := .pointer (some ⟨w.heap.size + 1, 3, none⟩)) rfl (fun w' hw => by go_simp) ?_
  simp only [Act.put, List.setIfInBounds_toArray, List.set_cons_succ, List.set_cons_zero]
  refine rel_loadF (w.heap.size + 1) 3 u rfl rfl (fun w' hw => rb w' hw 3 _ rfl) ?_
  simp only [Act.put, List.setIfInBounds_toArray, List.set_cons_succ, List.set_cons_zero]
  refine rel_call (f := 162) (args := #[.agg (ms.map (Value.float .f64)).toArray, .int .i64 3, .float .f64 x, .float .f64 y, .float .f64 z, .float .f64 u]) rfl (fun w' hw => by go_simp) (fun w' hw => g162 (i0 := 3) HM.out (by decide) HP.out.1 HP.out.2.1 HP.out.2.2.1 HP.out.2.2.2 hw) (fun v hv => ?_)
  obtain ⟨r4, rfl, hr4⟩ := G162 (i0 := 3) hv HP.out.1 HP.out.2.1 HP.out.2.2.1 HP.out.2.2.2
  simp only [Act.put, List.setIfInBounds_toArray, List.set_cons_succ, List.set_cons_zero]
  refine rel_val (v := .agg #[.float .f64 r1, .float .f64 r2, .float .f64 r3, .float .f64 r4]) rfl (fun w' hw => by go_simp) ?_
  simp only [Act.put, List.setIfInBounds_toArray, List.set_cons_succ, List.set_cons_zero]
  refine rel_nil ?_
  intro w3 hB3
  have RR := Lib.hid (And.intro hr1 (And.intro hr2 (And.intro hr3 hr4)))
  have B3 := Lib.hid (BW.out.trans (hB3.mono (by have := LW.out; omega)))
  obtain ⟨s0, s1, s2, s3⟩ := store4 (RT.out w3 hB3)
  have T3 := Lib.hid (RT.out w3 hB3)
  clear hB3 ra rb
  go_wp2
  refine bodyPost_ret (v := .agg #[_, _, _, _]) (ret_row Try.prog Try.results101 rfl [_, _, _, _] T3.out Try.underlying60 rfl size60) rfl ?_
  exact ⟨⟨_, _, _, _, rfl, RR.out⟩, below_setCells B3.out (by omega) 0 [_, _, _, _]⟩
end Go.Proofs.Ytelalledjbeenaa
