/- Matrices: a row times four numbers: printed by geo6.py. -/
import Derived.Test.YtelalledjbeenaaGeoF
namespace Go.Proofs.Ytelalledjbeenaa
open Go.RowKit Fl

/-- sixteen words -/
def MU (ms : List Nat) : Prop := ms.length = 16 ∧ ∀ x ∈ ms, U x
/-- their places -/
def mp (ms : List Nat) (j : Nat) : Int := pl (ms.getD j 0)
theorem MU.get {ms : List Nat} (h : MU ms) {j : Nat} (hj : j < 16) : ∃ x, ms[j]? = some x ∧ RV x (mp ms j) := by
  have hl : j < ms.length := by rw [h.1]; exact hj
  refine ⟨ms[j], List.getElem?_eq_getElem hl, h.2 _ (List.getElem_mem hl), ?_⟩
  unfold mp
  rw [List.getD_eq_getElem?_getD, List.getElem?_eq_getElem hl]; rfl
theorem map_get {ms : List Nat} {j x : Nat} (h : ms[j]? = some x) : (ms.map (Value.float .f64))[j]? = some (.float .f64 x) := by rw [List.getElem?_map, h]; rfl
def rowP (m : Nat → Int) (i : Nat) (x y z w : Int) : Int :=
  opP .add (opP .add (opP .add (opP .mul (m i) x) (opP .mul (m (4 + i)) y)) (opP .mul (m (8 + i)) z)) (opP .mul (m (12 + i)) w)
theorem size80 : (Try.prog.info? 80).map (·.size) = some 16 := by kernel_rfl

set_option maxRecDepth 100000 in
set_option maxHeartbeats 2000000 in
theorem k162 {ms : List Nat} {i x y z u : Nat} {X Y Z W : Int} (hm : MU ms) (hi : i < 4) (hx : RV x X) (hy : RV y Y) (hz : RV z Z) (hu : RV u W) (w : World) :
    Calls Try.prog 162 #[.agg (ms.map (Value.float .f64)).toArray, .int .i64 (i : Int), .float .f64 x, .float .f64 y, .float .f64 z, .float .f64 u] w fun e w' => RetR (rowP (mp ms) i X Y Z W) e ∧ Below w.heap.size w w' := by
  obtain ⟨m0, c0, r0⟩ := hm.get (j := i) (by omega)
  obtain ⟨m1, c1, r1⟩ := hm.get (j := 4 + i) (by omega)
  obtain ⟨m2, c2, r2⟩ := hm.get (j := 8 + i) (by omega)
  obtain ⟨m3, c3, r3⟩ := hm.get (j := 12 + i) (by omega)
  have C0 := Lib.hid (map_get c0)
  have C1 := Lib.hid (map_get c1)
  have C2 := Lib.hid (map_get c2)
  have C3 := Lib.hid (map_get c3)
  have RM := Lib.hid (And.intro r0 (And.intro r1 (And.intro r2 r3)))
  have RX := Lib.hid (And.intro hx (And.intro hy (And.intro hz hu)))
  have i0 : (0 : Int) ≤ (i : Int) := by omega
  have i4 : (i : Int) < 16 := by omega
  have i5 : 4 + (i : Int) < 16 := by omega
  have i6 : 8 + (i : Int) < 16 := by omega
  have i7 : 12 + (i : Int) < 16 := by omega
  clear c0 c1 c2 c3 r0 r1 r2 r3 hx hy hz hu hm hi
  go_enter Try.func162, Try.ntmps162
  go_wp2_with fail
  refine wp_gen (fun wx => Hid (wx.rangeAt w.heap.size 0 (ms.map (Value.float .f64)) ∧ Below w.heap.size w wx ∧ w.heap.size < wx.heap.size)) (Lib.hid ⟨range_new w _ 80, (Below.refl _ _).alloc (Nat.le_refl _) _, by simp⟩) ?_
  intro wc hW
  have ra : ∀ w', Below wc.heap.size wc w' → w'.rangeAt w.heap.size 0 (ms.map (Value.float .f64)) := fun w' hw => range_below hW.out.1 hw hW.out.2.2
  have W1 : IntKind.i64.wrap (4 + (i : Int)) = 4 + (i : Int) := by rw [IntKind.wrap_i64]; omega
  have N1 : (0 : Int) ≤ 4 + (i : Int) := by omega
  have T1 : (4 + (i : Int)).toNat = 4 + i := by omega
  refine wp_region_rel 13 (fun w' => Below wc.heap.size wc w') GEO (by kernel_rfl) (by kernel_rfl) ((Below.refl _ _).drew) ?_
  simp only [List.take_succ_cons, List.take_zero, List.drop_succ_cons, List.drop_zero]
  refine rel_move (v := .int .i64 (i : Int)) rfl rfl ?_
  simp only [Act.put, List.setIfInBounds_toArray, List.set_cons_succ, List.set_cons_zero]
  refine rel_val (v := .pointer (some ⟨w.heap.size, i, none⟩)) rfl (fun w' hw => by go_simp) ?_
  simp only [Act.put, List.setIfInBounds_toArray, List.set_cons_succ, List.set_cons_zero]
  refine rel_loadF (w.heap.size) (i) m0 rfl rfl (fun w' hw => ra w' hw (i) _ C0.out) ?_
  simp only [Act.put, List.setIfInBounds_toArray, List.set_cons_succ, List.set_cons_zero]
  refine rel_move (v := .float .f64 x) rfl rfl ?_
  simp only [Act.put, List.setIfInBounds_toArray, List.set_cons_succ, List.set_cons_zero]
  refine rel_fop (w0 := wc) (op := .mul) rfl rfl rfl RM.out.1 RX.out.1 rfl ?_
  intro s1 hs1
  simp only [Act.put, List.setIfInBounds_toArray, List.set_cons_succ, List.set_cons_zero]
  refine rel_move (v := .int .i64 (i : Int)) rfl rfl ?_
  simp only [Act.put, List.setIfInBounds_toArray, List.set_cons_succ, List.set_cons_zero]
  refine rel_val (v := .int .i64 (4 + (i : Int))) rfl (fun w' hw => by go_simp) ?_
  simp only [Act.put, List.setIfInBounds_toArray, List.set_cons_succ, List.set_cons_zero]
  refine rel_val (v := .pointer (some ⟨w.heap.size, 4 + i, none⟩)) rfl (fun w' hw => by go_simp) ?_
  simp only [Act.put, List.setIfInBounds_toArray, List.set_cons_succ, List.set_cons_zero]
  refine rel_loadF (w.heap.size) (4 + i) m1 rfl rfl (fun w' hw => ra w' hw (4 + i) _ C1.out) ?_
  simp only [Act.put, List.setIfInBounds_toArray, List.set_cons_succ, List.set_cons_zero]
  refine rel_move (v := .float .f64 y) rfl rfl ?_
  simp only [Act.put, List.setIfInBounds_toArray, List.set_cons_succ, List.set_cons_zero]
  refine rel_fop (w0 := wc) (op := .mul) rfl rfl rfl RM.out.2.1 RX.out.2.1 rfl ?_
  intro s2 hs2
  simp only [Act.put, List.setIfInBounds_toArray, List.set_cons_succ, List.set_cons_zero]
  refine rel_fop (w0 := wc) (op := .add) rfl rfl rfl hs1 hs2 rfl ?_
  intro s3 hs3
  simp only [Act.put, List.setIfInBounds_toArray, List.set_cons_succ, List.set_cons_zero]
  refine rel_assign (v := .float .f64 s3) rfl rfl ?_
  simp only [Act.put, List.setIfInBounds_toArray, List.set_cons_succ, List.set_cons_zero]
  refine rel_nil ?_
  intro w3 hB3
  have R1 := Lib.hid hs3
  have B3 := Lib.hid (hW.out.2.1.trans (hB3.mono (Nat.le_of_lt hW.out.2.2)))
  have kk := ra w3 hB3
  have k2 : w3.cell? ⟨w.heap.size, 8 + i, none⟩ = some (.float .f64 m2) := by have := kk (8 + i) _ C2.out; rwa [Nat.zero_add] at this
  have k3 : w3.cell? ⟨w.heap.size, 12 + i, none⟩ = some (.float .f64 m3) := by have := kk (12 + i) _ C3.out; rwa [Nat.zero_add] at this
  have hA := fun x y w => run_fop (P := Try.prog) .add rfl 24 x y w
  have hM := fun x y w => run_fop (P := Try.prog) .mul rfl 24 x y w
  have BD := Lib.hid (fun n => Bd B3.out n)
  clear hB3 kk ra hW W1 N1 T1
  go_wp2
  go_ret
  exact ⟨⟨_, rfl, RV.fop .add (RV.fop .add R1.out (RV.fop .mul RM.out.2.2.1 RX.out.2.2.1 _) _) (RV.fop .mul RM.out.2.2.2 RX.out.2.2.2 _) _⟩, BD.out _⟩
end Go.Proofs.Ytelalledjbeenaa
