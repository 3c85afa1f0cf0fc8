/- Bounds: printed by geo11.py. -/
import Derived.Test.YtelalledjbeenaaGeoM
namespace Go.Proofs.Ytelalledjbeenaa
open Go.RowKit Fl

/-- the least (or greatest) of every fourth number from o on -/
def foldP (f : Int → Int → Int) (q : Nat → Int) (o : Nat) : Nat → Int
  | 0 => q o
  | k + 1 => f (foldP f q o k) (q (4 * (k + 1) + o))
theorem range_part {w : World} {b o : Nat} {xs ys : List Value} (h : w.rangeAt b 0 xs) (hy : ∀ j v, ys[j]? = some v → xs[o + j]? = some v) : w.rangeAt b o ys := fun j v hj => by
  have := h (o + j) v (hy j v hj)
  rwa [Nat.zero_add] at this
theorem range_four {w : World} {b o : Nat} {xs : List Value} {v0 v1 v2 v3 : Value} (h : w.rangeAt b 0 xs) (h0 : xs[o]? = some v0) (h1 : xs[o + 1]? = some v1) (h2 : xs[o + 2]? = some v2) (h3 : xs[o + 3]? = some v3) : w.rangeAt b o [v0, v1, v2, v3] :=
  range_part h fun j v hj => by
    match j, hj with
    | 0, hj => injection hj with hj; subst hj; exact h0
    | 1, hj => injection hj with hj; subst hj; exact h1
    | 2, hj => injection hj with hj; subst hj; exact h2
    | 3, hj => injection hj with hj; subst hj; exact h3
theorem size60P : (Try.prog.info? 60).map (·.size) = some 4 := by kernel_rfl
theorem fresh60 (w2 : World) (x0 x1 x2 x3 : Nat) : (w2.alloc (.cells #[.float .f64 x0, .float .f64 x1, .float .f64 x2, .float .f64 x3] 60)).rangeAt w2.heap.size 0 [.float .f64 x0, .float .f64 x1, .float .f64 x2, .float .f64 x3] := range_new w2 _ 60
theorem one_below {wx wy w : World} {A : List Value} {n : Nat} (h : One wx w A n) (hb : Below wx.heap.size wx wy) : One wy w A n :=
  ⟨range_below h.r1 hb (by have := h.lt; omega), there_below h.t hb h.lt, h.b.trans (hb.mono (by have := h.lt; omega)), Nat.lt_of_lt_of_le h.lt hb.size⟩

set_option maxRecDepth 100000 in
set_option maxHeartbeats 2000000 in
theorem k79 {qs : List Nat} (hq : MU qs) (w : World) :
    Calls Try.prog 79 #[.agg (qs.map (Value.float .f64)).toArray] w fun e w' => RetQ (foldP minP (mp qs) 0 3) (foldP minP (mp qs) 1 3) (opP .sub (foldP maxP (mp qs) 0 3) (foldP minP (mp qs) 0 3)) (opP .sub (foldP maxP (mp qs) 1 3) (foldP minP (mp qs) 1 3)) e ∧ Below w.heap.size w w' := by
  have HQ := Lib.hid hq
  obtain ⟨q0, c0, r0⟩ := hq.get (j := 0) (by omega)
  obtain ⟨q1, c1, r1⟩ := hq.get (j := 1) (by omega)
  have C0 := Lib.hid (map_get c0)
  have C1 := Lib.hid (map_get c1)
  have R0 := Lib.hid r0
  have R1 := Lib.hid r1
  clear c0 c1 r0 r1 hq
  go_enter Try.func79, Try.ntmps79
  go_wp2_with fail
  refine wp_gen (fun wx => Hid (One wx w (qs.map (Value.float .f64)) 4)) (Lib.hid (one_entry w (qs.map (Value.float .f64)) _ 82 58 4 rfl)) ?_
  intro wc hW
  have ra : ∀ w', Below wc.heap.size wc w' → w'.rangeAt w.heap.size 0 (qs.map (Value.float .f64)) := fun w' hw => range_below hW.out.r1 hw (by have := hW.out.lt; omega)
  refine wp_region_rel 16 (fun w' => Below wc.heap.size wc w') GEO (by kernel_rfl) (by kernel_rfl) ((Below.refl _ _).drew) ?_
  simp only [List.take_succ_cons, List.take_zero, List.drop_succ_cons, List.drop_zero]
  refine rel_val (v := .pointer (some ⟨w.heap.size, 0, none⟩)) rfl (fun w' hw => by go_simp) ?_
  simp only [Act.put, List.setIfInBounds_toArray, List.set_cons_succ, List.set_cons_zero]
  refine rel_val (v := .pointer (some ⟨w.heap.size, 0, none⟩)) rfl (fun w' hw => by go_simp) ?_
  simp only [Act.put, List.setIfInBounds_toArray, List.set_cons_succ, List.set_cons_zero]
  refine rel_loadF (w.heap.size) (0) q0 rfl rfl (fun w' hw => ra w' hw (0) _ C0.out) ?_
  simp only [Act.put, List.setIfInBounds_toArray, List.set_cons_succ, List.set_cons_zero]
  refine rel_val (v := .pointer (some ⟨w.heap.size, 0, none⟩)) rfl (fun w' hw => by go_simp) ?_
  simp only [Act.put, List.setIfInBounds_toArray, List.set_cons_succ, List.set_cons_zero]
  refine rel_val (v := .pointer (some ⟨w.heap.size, 1, none⟩)) rfl (fun w' hw => by go_simp) ?_
  simp only [Act.put, List.setIfInBounds_toArray, List.set_cons_succ, List.set_cons_zero]
  refine rel_loadF (w.heap.size) (1) q1 rfl rfl (fun w' hw => ra w' hw (1) _ C1.out) ?_
  simp only [Act.put, List.setIfInBounds_toArray, List.set_cons_succ, List.set_cons_zero]
  refine rel_val (v := .pointer (some ⟨w.heap.size, 0, none⟩)) rfl (fun w' hw => by go_simp) ?_
  simp only [Act.put, List.setIfInBounds_toArray, List.set_cons_succ, List.set_cons_zero]
  refine rel_val (v := .pointer (some ⟨w.heap.size, 0, none⟩)) rfl (fun w' hw => by go_simp) ?_
  simp only [Act.put, List.setIfInBounds_toArray, List.set_cons_succ, List.set_cons_zero]
  refine rel_loadF (w.heap.size) (0) q0 rfl rfl (fun w' hw => ra w' hw (0) _ C0.out) ?_
  simp only [Act.put, List.setIfInBounds_toArray, List.set_cons_succ, List.set_cons_zero]
  refine rel_val (v := .pointer (some ⟨w.heap.size, 0, none⟩)) rfl (fun w' hw => by go_simp) ?_
  simp only [Act.put, List.setIfInBounds_toArray, List.set_cons_succ, List.set_cons_zero]
  refine rel_val (v := .pointer (some ⟨w.heap.size, 1, none⟩)) rfl (fun w' hw => by go_simp) ?_
  simp only [Act.put, List.setIfInBounds_toArray, List.set_cons_succ, List.set_cons_zero]
  refine rel_loadF (w.heap.size) (1) q1 rfl rfl (fun w' hw => ra w' hw (1) _ C1.out) ?_
  simp only [Act.put, List.setIfInBounds_toArray, List.set_cons_succ, List.set_cons_zero]
  refine rel_assign (v := .float .f64 q0) rfl rfl ?_
  simp only [Act.put, List.setIfInBounds_toArray, List.set_cons_succ, List.set_cons_zero]
  refine rel_assign (v := .float .f64 q1) rfl rfl ?_
  simp only [Act.put, List.setIfInBounds_toArray, List.set_cons_succ, List.set_cons_zero]
  refine rel_assign (v := .float .f64 q0) rfl rfl ?_
  simp only [Act.put, List.setIfInBounds_toArray, List.set_cons_succ, List.set_cons_zero]
  refine rel_assign (v := .float .f64 q1) rfl rfl ?_
  simp only [Act.put, List.setIfInBounds_toArray, List.set_cons_succ, List.set_cons_zero]
  refine rel_nil ?_
  intro w3 hB3
  have W3 := Lib.hid (one_below hW.out hB3)
  clear hB3 hW ra
  go_wp2_with fail
  go_loopw [3, 4, 5, 6, 23] (fun l t r b i wx => ∃ k l' t' r' b' : Nat, k ≤ 3 ∧ i = .int .i64 k ∧ l = .float .f64 l' ∧ t = .float .f64 t' ∧ r = .float .f64 r' ∧ b = .float .f64 b' ∧ Hid (RV l' (foldP minP (mp qs) 0 k) ∧ RV t' (foldP minP (mp qs) 1 k) ∧ RV r' (foldP maxP (mp qs) 0 k) ∧ RV b' (foldP maxP (mp qs) 1 k)) ∧ Hid (One wx w (qs.map (Value.float .f64)) 4)) (fun _ _ _ _ i _ => 3 - (intOf i).toNat)
  case atStart => exact ⟨0, q0, q1, q0, q1, by omega, rfl, rfl, rfl, rfl, rfl, Lib.hid ⟨R0.out, R1.out, R0.out, R1.out⟩, W3⟩
  case round =>
    obtain ⟨k, l, t, r, b, hk, rfl, rfl, rfl, rfl, rfl, RL, hW⟩ := hrel
    clear W3
    by_cases hlt : k < 3
    · have hki : (k : Int) < 3 := by omega
      have hk0 : (0 : Int) ≤ (k : Int) := by omega
      have HLT := Lib.hid hlt
      obtain ⟨x0, c0, r0⟩ := HQ.out.get (j := 4 * (k + 1)) (by omega)
      obtain ⟨x1, c1, r1⟩ := HQ.out.get (j := 4 * (k + 1) + 1) (by omega)
      obtain ⟨x2, c2, r2⟩ := HQ.out.get (j := 4 * (k + 1) + 2) (by omega)
      obtain ⟨x3, c3, r3⟩ := HQ.out.get (j := 4 * (k + 1) + 3) (by omega)
      have RX := Lib.hid (And.intro (show RV x0 (mp qs (4 * (k + 1) + 0)) from r0) (And.intro r1 (And.intro r2 r3)))
      have rr := range_four hW.out.r1 (map_get c0) (map_get c1) (map_get c2) (map_get c3)
      have e4 : 4 * (k + 1) = 4 + k * 4 := by omega
      rw [e4] at rr
      have y0 : wr.cell? ⟨w.heap.size, 4 + k * 4, none⟩ = some (.float .f64 x0) := rr 0 _ rfl
      have y1 : wr.cell? ⟨w.heap.size, 4 + k * 4 + 1, none⟩ = some (.float .f64 x1) := rr 1 _ rfl
      have y2 : wr.cell? ⟨w.heap.size, 4 + k * 4 + 2, none⟩ = some (.float .f64 x2) := rr 2 _ rfl
      have y3 : wr.cell? ⟨w.heap.size, 4 + k * 4 + 3, none⟩ = some (.float .f64 x3) := rr 3 _ rfl
      clear rr e4
      have FR := Lib.hid (fresh60 wr x0 x1 x2 x3)
      have BW := Lib.hid (And.intro (one_below hW.out (alloc_below wr (.cells #[.float .f64 x0, .float .f64 x1, .float .f64 x2, .float .f64 x3] 60))) (show wr.heap.size < (wr.alloc (.cells #[.float .f64 x0, .float .f64 x1, .float .f64 x2, .float .f64 x3] 60)).heap.size by simp))
      obtain ⟨s0, s1, s2, s3⟩ := store4n wr 60
      clear c0 c1 c2 c3 r0 r1 r2 r3 hlt hW
      go_upto_region 5 with fail
      refine wp_gen (fun wx => Hid (One wx w (qs.map (Value.float .f64)) 4 ∧ wx.rangeAt wr.heap.size 0 [.float .f64 x0, .float .f64 x1, .float .f64 x2, .float .f64 x3] ∧ wr.heap.size < wx.heap.size)) (Lib.hid ⟨BW.out.1, FR.out, BW.out.2⟩) ?_
      intro wc hW
      clear BW FR s0 s1 s2 s3 y0 y1 y2 y3
      obtain ⟨g, hg⟩ : ∃ g, g = wr.heap.size := ⟨_, rfl⟩
      rw [← hg] at hW
      simp only [← hg]
      clear hg
      have rx : ∀ w', Below wc.heap.size wc w' → w'.rangeAt g 0 [.float .f64 x0, .float .f64 x1, .float .f64 x2, .float .f64 x3] := fun w' hw => range_below hW.out.2.1 hw hW.out.2.2

      refine wp_region_rel 20 (fun w' => Below wc.heap.size wc w') GEO (by kernel_rfl) (by kernel_rfl) ((Below.refl _ _).drew) ?_
      simp only [List.take_succ_cons, List.take_zero, List.drop_succ_cons, List.drop_zero]
      refine rel_move (v := .float .f64 l) rfl rfl ?_
      simp only [Act.put, List.setIfInBounds_toArray, List.set_cons_succ, List.set_cons_zero]
      refine rel_val (v := .pointer (some ⟨g, 0, none⟩)) rfl (fun w' hw => by go_simp) ?_
      simp only [Act.put, List.setIfInBounds_toArray, List.set_cons_succ, List.set_cons_zero]
      refine rel_loadF (g) 0 x0 rfl rfl (fun w' hw => rx w' hw 0 _ rfl) ?_
      simp only [Act.put, List.setIfInBounds_toArray, List.set_cons_succ, List.set_cons_zero]
      refine rel_call (f := 83) (args := #[.float .f64 l, .float .f64 x0]) rfl (fun w' hw => by go_simp) (fun w' hw => g83 RL.out.1 RX.out.1 hw) (fun v hv => ?_)
      obtain ⟨s1, rfl, hs1⟩ := G83 hv RL.out.1 RX.out.1
      simp only [Act.put, List.setIfInBounds_toArray, List.set_cons_succ, List.set_cons_zero]
      refine rel_move (v := .float .f64 t) rfl rfl ?_
      simp only [Act.put, List.setIfInBounds_toArray, List.set_cons_succ, List.set_cons_zero]
      refine rel_val (v := .pointer (some ⟨g, 1, none⟩)) rfl (fun w' hw => by go_simp) ?_
      simp only [Act.put, List.setIfInBounds_toArray, List.set_cons_succ, List.set_cons_zero]
      refine rel_loadF (g) 1 x1 rfl rfl (fun w' hw => rx w' hw 1 _ rfl) ?_
      simp only [Act.put, List.setIfInBounds_toArray, List.set_cons_succ, List.set_cons_zero]
      refine rel_call (f := 83) (args := #[.float .f64 t, .float .f64 x1]) rfl (fun w' hw => by go_simp) (fun w' hw => g83 RL.out.2.1 RX.out.2.1 hw) (fun v hv => ?_)
      obtain ⟨s2, rfl, hs2⟩ := G83 hv RL.out.2.1 RX.out.2.1
      simp only [Act.put, List.setIfInBounds_toArray, List.set_cons_succ, List.set_cons_zero]
      refine rel_move (v := .float .f64 r) rfl rfl ?_
      simp only [Act.put, List.setIfInBounds_toArray, List.set_cons_succ, List.set_cons_zero]
      refine rel_val (v := .pointer (some ⟨g, 0, none⟩)) rfl (fun w' hw => by go_simp) ?_
      simp only [Act.put, List.setIfInBounds_toArray, List.set_cons_succ, List.set_cons_zero]
      refine rel_loadF (g) 0 x0 rfl rfl (fun w' hw => rx w' hw 0 _ rfl) ?_
      simp only [Act.put, List.setIfInBounds_toArray, List.set_cons_succ, List.set_cons_zero]
      refine rel_call (f := 84) (args := #[.float .f64 r, .float .f64 x0]) rfl (fun w' hw => by go_simp) (fun w' hw => g84 RL.out.2.2.1 RX.out.1 hw) (fun v hv => ?_)
      obtain ⟨s3, rfl, hs3⟩ := G84 hv RL.out.2.2.1 RX.out.1
      simp only [Act.put, List.setIfInBounds_toArray, List.set_cons_succ, List.set_cons_zero]
      refine rel_move (v := .float .f64 b) rfl rfl ?_
      simp only [Act.put, List.setIfInBounds_toArray, List.set_cons_succ, List.set_cons_zero]
      refine rel_val (v := .pointer (some ⟨g, 1, none⟩)) rfl (fun w' hw => by go_simp) ?_
      simp only [Act.put, List.setIfInBounds_toArray, List.set_cons_succ, List.set_cons_zero]
      refine rel_loadF (g) 1 x1 rfl rfl (fun w' hw => rx w' hw 1 _ rfl) ?_
      simp only [Act.put, List.setIfInBounds_toArray, List.set_cons_succ, List.set_cons_zero]
      refine rel_call (f := 84) (args := #[.float .f64 b, .float .f64 x1]) rfl (fun w' hw => by go_simp) (fun w' hw => g84 RL.out.2.2.2 RX.out.2.1 hw) (fun v hv => ?_)
      obtain ⟨s4, rfl, hs4⟩ := G84 hv RL.out.2.2.2 RX.out.2.1
      simp only [Act.put, List.setIfInBounds_toArray, List.set_cons_succ, List.set_cons_zero]
      refine rel_assign (v := .float .f64 s1) rfl rfl ?_
      simp only [Act.put, List.setIfInBounds_toArray, List.set_cons_succ, List.set_cons_zero]
      refine rel_assign (v := .float .f64 s2) rfl rfl ?_
      simp only [Act.put, List.setIfInBounds_toArray, List.set_cons_succ, List.set_cons_zero]
      refine rel_assign (v := .float .f64 s3) rfl rfl ?_
      simp only [Act.put, List.setIfInBounds_toArray, List.set_cons_succ, List.set_cons_zero]
      refine rel_assign (v := .float .f64 s4) rfl rfl ?_
      simp only [Act.put, List.setIfInBounds_toArray, List.set_cons_succ, List.set_cons_zero]
      refine rel_nil ?_
      intro w4 hB4
      have R5 : Hid (RV s1 (foldP minP (mp qs) 0 (k + 1)) ∧ RV s2 (foldP minP (mp qs) 1 (k + 1)) ∧ RV s3 (foldP maxP (mp qs) 0 (k + 1)) ∧ RV s4 (foldP maxP (mp qs) 1 (k + 1))) := Lib.hid ⟨hs1, hs2, hs3, hs4⟩
      have W4 := Lib.hid (one_below hW.out.1 hB4)
      clear hB4 hW rx
      go_wp2_with fail
      go_roundw
      case rel => exact ⟨k + 1, _, _, _, _, by have := HLT.out; omega, by go_num, rfl, rfl, rfl, rfl, R5, W4⟩
      case measure => have := HLT.out; simp [intOf]; omega
    · have hki : ¬ (k : Int) < 3 := by omega
      have hk3 : k = 3 := by omega
      subst hk3
      clear hlt hk
      go_wp2_with fail
      refine (k148 RL.out.1 RL.out.2.1 RL.out.2.2.1 RL.out.2.2.2 _).mono ?_
      rintro e w4 ⟨⟨z0, z1, z2, z3, rfl, hz⟩, hb⟩
      have W4 := Lib.hid (one_below hW.out hb)
      have T4 := Lib.hid W4.out.t
      have HZ := Lib.hid hz
      obtain ⟨s0, s1, s2, s3⟩ := store4 W4.out.t
      clear hz hb hW
      go_wp2
      refine bodyPost_ret (v := .agg #[_, _, _, _]) (ret_row Try.prog Try.results79 rfl [_, _, _, _] T4.out Try.underlying58 rfl size58) rfl ?_
      exact ⟨⟨_, _, _, _, rfl, HZ.out⟩, below_setCells W4.out.b (by omega) 0 [_, _, _, _]⟩
end Go.Proofs.Ytelalledjbeenaa
