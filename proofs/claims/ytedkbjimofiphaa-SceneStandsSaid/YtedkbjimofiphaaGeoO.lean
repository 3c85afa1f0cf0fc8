/- minors: printed by geo12.py. -/
import Derived.Test.YtedkbjimofiphaaMgGeoW
namespace Go.Proofs.Ytedkbjimofiphaa
open Go.RowKit Fl
/-- how many pairs lie ahead of row i -/
def cntK : Nat → Nat
  | 0 => 0
  | 1 => 3
  | 2 => 5
  | _ => 6
theorem cnt_step {i : Nat} (h : i < 4) : cntK i + (4 - i - 1) = cntK (i + 1) := by
  rcases (by omega : i = 0 ∨ i = 1 ∨ i = 2 ∨ i = 3) with rfl | rfl | rfl | rfl <;> rfl
theorem cnt_lt {i j c : Nat} (h : i < j) (hj : j < 4) (hc : c = cntK i + (j - i - 1)) : c < 6 := by
  subst hc
  rcases (by omega : (i = 0 ∧ j = 1) ∨ (i = 0 ∧ j = 2) ∨ (i = 0 ∧ j = 3) ∨ (i = 1 ∧ j = 2) ∨ (i = 1 ∧ j = 3) ∨ (i = 2 ∧ j = 3)) with ⟨rfl, rfl⟩ | ⟨rfl, rfl⟩ | ⟨rfl, rfl⟩ | ⟨rfl, rfl⟩ | ⟨rfl, rfl⟩ | ⟨rfl, rfl⟩ <;> decide
/-- the first c of six words are laid -/
def MinS (f : Nat → Int) (os : List Nat) (c : Nat) : Prop := os.length = 6 ∧ ∀ j, j < c → RV (os.getD j 0) (f j)
theorem minS_start {f : Nat → Int} : MinS f (List.replicate 6 0) 0 := ⟨rfl, fun j hj => absurd hj (by omega)⟩
theorem minS_step {f : Nat → Int} {os : List Nat} {c r : Nat} (h : MinS f os c) (hc : c < 6) (hr : RV r (f c)) : MinS f (os.set c r) (c + 1) :=
  ⟨by rw [List.length_set]; exact h.1, fun j hj => by
    by_cases hjc : j = c
    · subst hjc
      rw [List.getD_eq_getElem?_getD, List.getElem?_set_self (by rw [h.1]; exact hc)]
      exact hr
    · rw [List.getD_eq_getElem?_getD, List.getElem?_set_ne (fun e => hjc e.symm), ← List.getD_eq_getElem?_getD]
      exact h.2 j (by omega)⟩
theorem size152 : (Try.prog.info? 143).map (·.size) = some 6 := by kernel_rfl
theorem size152L (xs : List Nat) (h : xs.length = 6) : (Try.prog.info? 143).map (·.size) = some (xs.map (Value.float .f64)).length := by rw [List.length_map, h]; exact size152
theorem size152A (xs : List Nat) (h : xs.length = 6) : (Try.prog.info? 143).map (·.size) = some (xs.map (Value.float .f64)).toArray.size := by rw [List.size_toArray]; exact size152L xs h
theorem thereL {w : World} {b n : Nat} {xs : List Nat} (h : w.there b 0 n) (hx : xs.length = n) : w.there b 0 (xs.map (Value.float .f64)).length := by rw [List.length_map, hx]; exact h
theorem thereA {w : World} {b n : Nat} {xs : List Nat} (h : w.there b 0 n) (hx : xs.length = n) : w.there b 0 (xs.map (Value.float .f64)).toArray.size := by rw [List.size_toArray]; exact thereL h hx
structure MinW (wx w : World) (A : List Value) (g : Nat) (os : List Nat) : Prop where
  o : One wx w A 6
  r : wx.rangeAt g 0 (os.map (Value.float .f64))
  t : wx.there g 0 6
  l : w.heap.size + 1 < g ∧ g < wx.heap.size
theorem min_start {wx w : World} {A : List Value} (h : One wx w A 6) : MinW (wx.alloc (.cells #[.float .f64 0, .float .f64 0, .float .f64 0, .float .f64 0, .float .f64 0, .float .f64 0] 143)) w A wx.heap.size (List.replicate 6 0) :=
  ⟨one_below h (alloc_below _ _), range_new wx ((List.replicate 6 0).map (Value.float .f64)) 143, there_new wx _ 143 6 rfl, h.lt, by simp⟩
theorem min_below {wx wy w : World} {A : List Value} {g : Nat} {os : List Nat} (h : MinW wx w A g os) (hb : Below wx.heap.size wx wy) : MinW wy w A g os :=
  ⟨one_below h.o hb, range_below h.r hb h.l.2, there_below h.t hb h.l.2, h.l.1, Nat.lt_of_lt_of_le h.l.2 hb.size⟩
theorem min_set {wx w : World} {A : List Value} {g : Nat} {os : List Nat} (h : MinW wx w A g os) (k x : Nat) : MinW (wx.setCell ⟨g, k, none⟩ (.float .f64 x)) w A g (os.set k x) := by
  have hb : Below g wx (wx.setCell ⟨g, k, none⟩ (.float .f64 x)) := (Below.refl g wx).setCell (p := ⟨g, k, none⟩) (Nat.le_refl _) _
  have hl := h.l
  exact ⟨⟨range_below h.o.r1 hb (by omega), there_below h.o.t hb (by omega), h.o.b.setCell (by simp; omega) _, Nat.lt_of_lt_of_le h.o.lt hb.size⟩, range_set h.r x, there_set h.t _ _, h.l.1, Nat.lt_of_lt_of_le h.l.2 hb.size⟩
def pair0 (m : Nat → Int) (i j : Nat) : Int := lessP (m (i)) (m (4 + j)) (m (j)) (m (4 + i))
def minors0 (m : Nat → Int) : Nat → Int
  | 0 => pair0 m 0 1
  | 1 => pair0 m 0 2
  | 2 => pair0 m 0 3
  | 3 => pair0 m 1 2
  | 4 => pair0 m 1 3
  | _ => pair0 m 2 3
theorem minors0_ij (m : Nat → Int) {i j : Nat} (h : i < j) (hj : j < 4) : minors0 m (cntK i + (j - i - 1)) = pair0 m i j := by
  rcases (by omega : (i = 0 ∧ j = 1) ∨ (i = 0 ∧ j = 2) ∨ (i = 0 ∧ j = 3) ∨ (i = 1 ∧ j = 2) ∨ (i = 1 ∧ j = 3) ∨ (i = 2 ∧ j = 3)) with ⟨rfl, rfl⟩ | ⟨rfl, rfl⟩ | ⟨rfl, rfl⟩ | ⟨rfl, rfl⟩ | ⟨rfl, rfl⟩ | ⟨rfl, rfl⟩ <;> rfl
set_option maxRecDepth 100000 in
set_option maxHeartbeats 2000000 in
theorem k156_0 {ms : List Nat} (hm : MU ms) (w : World) :
    Calls Try.prog 78 #[.agg (ms.map (Value.float .f64)).toArray, .int .i64 0] w fun e w' => (∃ os : List Nat, e = .returned (.agg (os.map (Value.float .f64)).toArray) ∧ MinS (minors0 (mp ms)) os 6) ∧ Below w.heap.size w w' := by
  have HM := Lib.hid hm
  clear hm
  go_enter Try.func78, Try.ntmps78
  go_wp2_with fail
  refine wp_gen (fun wx => Hid (One wx w (ms.map (Value.float .f64)) 6)) (Lib.hid (one_entry w (ms.map (Value.float .f64)) _ 44 143 6 rfl)) ?_
  intro wc hW
  refine wp_region_rel 11 (fun w' => Below wc.heap.size wc w') GEO (by kernel_rfl) (by kernel_rfl) ((Below.refl _ _).drew) ?_
  simp only [List.take_succ_cons, List.take_zero, List.drop_succ_cons, List.drop_zero]
  refine rel_move (v := .int .i64 0) rfl rfl ?_
  simp only [Act.put, List.setIfInBounds_toArray, List.set_cons_succ, List.set_cons_zero]
  refine rel_move (v := .int .i64 0) rfl rfl ?_
  simp only [Act.put, List.setIfInBounds_toArray, List.set_cons_succ, List.set_cons_zero]
  refine rel_val (v := .int .i64 4) rfl (fun w' hw => by go_simp; try decide) ?_
  simp only [Act.put, List.setIfInBounds_toArray, List.set_cons_succ, List.set_cons_zero]
  refine rel_val (v := .slice (some ⟨w.heap.size, 0, none⟩) 4 16) rfl (fun w' hw => by go_simp) ?_
  simp only [Act.put, List.setIfInBounds_toArray, List.set_cons_succ, List.set_cons_zero]
  refine rel_move (v := .int .i64 0) rfl rfl ?_
  simp only [Act.put, List.setIfInBounds_toArray, List.set_cons_succ, List.set_cons_zero]
  refine rel_val (v := .int .i64 4) rfl (fun w' hw => by go_simp; try decide) ?_
  simp only [Act.put, List.setIfInBounds_toArray, List.set_cons_succ, List.set_cons_zero]
  refine rel_move (v := .int .i64 0) rfl rfl ?_
  simp only [Act.put, List.setIfInBounds_toArray, List.set_cons_succ, List.set_cons_zero]
  refine rel_val (v := .int .i64 8) rfl (fun w' hw => by go_simp; try decide) ?_
  simp only [Act.put, List.setIfInBounds_toArray, List.set_cons_succ, List.set_cons_zero]
  refine rel_val (v := .slice (some ⟨w.heap.size, 4, none⟩) 4 12) rfl (fun w' hw => by go_simp) ?_
  simp only [Act.put, List.setIfInBounds_toArray, List.set_cons_succ, List.set_cons_zero]
  refine rel_assign (v := .slice (some ⟨w.heap.size, 0, none⟩) 4 16) rfl rfl ?_
  simp only [Act.put, List.setIfInBounds_toArray, List.set_cons_succ, List.set_cons_zero]
  refine rel_assign (v := .slice (some ⟨w.heap.size, 4, none⟩) 4 12) rfl rfl ?_
  simp only [Act.put, List.setIfInBounds_toArray, List.set_cons_succ, List.set_cons_zero]
  refine rel_nil ?_
  intro w3 hB3
  have W3 := Lib.hid (min_start (one_below hW.out hB3))
  clear hB3 hW
  go_upto_region 3 with fail
  refine wp_gen (fun wx => Hid (MinW wx w (ms.map (Value.float .f64)) w3.heap.size (List.replicate 6 0))) W3 ?_
  intro wd hW
  clear W3
  generalize w3.heap.size = g at *
  go_wp2_with fail
  go_loopw [8, 20] (fun kk ii wx => ∃ (i : Nat) (os : List Nat), i ≤ 4 ∧ kk = .int .i64 (cntK i : Nat) ∧ ii = .int .i64 (i : Nat) ∧ Hid (MinS (minors0 (mp ms)) os (cntK i)) ∧ Hid (MinW wx w (ms.map (Value.float .f64)) g os)) (fun _ ii _ => 4 - (intOf ii).toNat)
  case atStart => exact ⟨0, _, by omega, rfl, rfl, Lib.hid minS_start, hW⟩
  case round =>
    obtain ⟨i, os, hi, rfl, rfl, hS, hX⟩ := hrel
    clear hW
    by_cases hlt : i < 4
    · have hki : (i : Int) < 4 := by omega
      have HI := Lib.hid hlt
      generalize hcK : cntK i = c0 at *
      have HK := Lib.hid hcK
      clear hlt hcK hi
      go_wp2_with fail
      go_loopw [8, 10] (fun kk jj wx => ∃ (j c : Nat) (os : List Nat), kk = .int .i64 (c : Nat) ∧ jj = .int .i64 (j : Nat) ∧ Hid (i < j ∧ j ≤ 4 ∧ c = cntK i + (j - i - 1)) ∧ Hid (MinS (minors0 (mp ms)) os c) ∧ Hid (MinW wx w (ms.map (Value.float .f64)) g os)) (fun _ jj _ => 4 - (intOf jj).toNat)
      case atStart => exact ⟨i + 1, c0, os, rfl, by go_num, Lib.hid ⟨by omega, by have := HI.out; omega, by rw [HK.out]; omega⟩, hS, hX⟩
      case round =>
        obtain ⟨j, c, os, rfl, rfl, hJ, hS, hX⟩ := hrel
        by_cases hlt : j < 4
        · have hkj : (j : Int) < 4 := by omega
          have hj0 : (0 : Int) ≤ (j : Int) := by omega
          have hi0 : (0 : Int) ≤ (i : Int) := by omega
          have hc0 : (0 : Int) ≤ (c : Int) := by omega
          have HC := Lib.hid (cnt_lt hJ.out.1 hlt hJ.out.2.2)
          have hc6 : (c : Int) < 6 := by have := HC.out; omega
          have HLT := Lib.hid hlt
          obtain ⟨m0, c0, r0⟩ := HM.out.get (j := i) (by omega)
          obtain ⟨m1, c1, r1⟩ := HM.out.get (j := 4 + j) (by omega)
          obtain ⟨m2, c2, r2⟩ := HM.out.get (j := j) (by omega)
          obtain ⟨m3, c3, r3⟩ := HM.out.get (j := 4 + i) (by omega)
          have RX := Lib.hid (And.intro r0 (And.intro r1 (And.intro r2 r3)))
          have C0 := Lib.hid (map_get c0)
          have C1 := Lib.hid (map_get c1)
          have C2 := Lib.hid (map_get c2)
          have C3 := Lib.hid (map_get c3)
          clear c0 c1 c2 c3 r0 r1 r2 r3 hlt
          go_upto_region 10 with fail
          have ra : ∀ w', Below wr.heap.size wr w' → w'.rangeAt w.heap.size 0 (ms.map (Value.float .f64)) := fun w' hw => range_below hX.out.o.r1 hw (by have := hX.out.o.lt; omega)
          refine wp_region_rel 19 (fun w' => Below wr.heap.size wr w') GEM (by kernel_rfl) (by kernel_rfl) ((Below.refl _ _).drew) ?_
          simp only [List.take_succ_cons, List.take_zero, List.drop_succ_cons, List.drop_zero]
          refine rel_move (v := .int .i64 (c : Int)) rfl rfl ?_
          simp only [Act.put, List.setIfInBounds_toArray, List.set_cons_succ, List.set_cons_zero]
          refine rel_move (v := .slice (some ⟨w.heap.size, 0, none⟩) 4 16) rfl rfl ?_
          simp only [Act.put, List.setIfInBounds_toArray, List.set_cons_succ, List.set_cons_zero]
          refine rel_move (v := .int .i64 (i : Int)) rfl rfl ?_
          simp only [Act.put, List.setIfInBounds_toArray, List.set_cons_succ, List.set_cons_zero]
          refine rel_val (v := .pointer (some ⟨w.heap.size, i, none⟩)) rfl (fun w' hw => by go_simp) ?_
          simp only [Act.put, List.setIfInBounds_toArray, List.set_cons_succ, List.set_cons_zero]
          refine rel_loadF (w.heap.size) (i) m0 rfl rfl (fun w' hw => ra w' hw (i) _ C0.out) ?_
          simp only [Act.put, List.setIfInBounds_toArray, List.set_cons_succ, List.set_cons_zero]
          refine rel_move (v := .slice (some ⟨w.heap.size, 4, none⟩) 4 12) rfl rfl ?_
          simp only [Act.put, List.setIfInBounds_toArray, List.set_cons_succ, List.set_cons_zero]
          refine rel_move (v := .int .i64 (j : Int)) rfl rfl ?_
          simp only [Act.put, List.setIfInBounds_toArray, List.set_cons_succ, List.set_cons_zero]
          refine rel_val (v := .pointer (some ⟨w.heap.size, 4 + j, none⟩)) rfl (fun w' hw => by go_simp) ?_
          simp only [Act.put, List.setIfInBounds_toArray, List.set_cons_succ, List.set_cons_zero]
          refine rel_loadF (w.heap.size) (4 + j) m1 rfl rfl (fun w' hw => ra w' hw (4 + j) _ C1.out) ?_
          simp only [Act.put, List.setIfInBounds_toArray, List.set_cons_succ, List.set_cons_zero]
          refine rel_move (v := .slice (some ⟨w.heap.size, 0, none⟩) 4 16) rfl rfl ?_
          simp only [Act.put, List.setIfInBounds_toArray, List.set_cons_succ, List.set_cons_zero]
          refine rel_move (v := .int .i64 (j : Int)) rfl rfl ?_
          simp only [Act.put, List.setIfInBounds_toArray, List.set_cons_succ, List.set_cons_zero]
          refine rel_val (v := .pointer (some ⟨w.heap.size, j, none⟩)) rfl (fun w' hw => by go_simp) ?_
          simp only [Act.put, List.setIfInBounds_toArray, List.set_cons_succ, List.set_cons_zero]
          refine rel_loadF (w.heap.size) (j) m2 rfl rfl (fun w' hw => ra w' hw (j) _ C2.out) ?_
          simp only [Act.put, List.setIfInBounds_toArray, List.set_cons_succ, List.set_cons_zero]
          refine rel_move (v := .slice (some ⟨w.heap.size, 4, none⟩) 4 12) rfl rfl ?_
          simp only [Act.put, List.setIfInBounds_toArray, List.set_cons_succ, List.set_cons_zero]
          refine rel_move (v := .int .i64 (i : Int)) rfl rfl ?_
          simp only [Act.put, List.setIfInBounds_toArray, List.set_cons_succ, List.set_cons_zero]
          refine rel_val (v := .pointer (some ⟨w.heap.size, 4 + i, none⟩)) rfl (fun w' hw => by go_simp) ?_
          simp only [Act.put, List.setIfInBounds_toArray, List.set_cons_succ, List.set_cons_zero]
          refine rel_loadF (w.heap.size) (4 + i) m3 rfl rfl (fun w' hw => ra w' hw (4 + i) _ C3.out) ?_
          simp only [Act.put, List.setIfInBounds_toArray, List.set_cons_succ, List.set_cons_zero]
          refine rel_call (f := 80) (args := #[.float .f64 m0, .float .f64 m1, .float .f64 m2, .float .f64 m3]) rfl (fun w' hw => by go_simp) (fun w' hw => g158 RX.out.1 RX.out.2.1 RX.out.2.2.1 RX.out.2.2.2 hw) (fun v hv => ?_)
          obtain ⟨s1, rfl, hs1⟩ := G158 hv RX.out.1 RX.out.2.1 RX.out.2.2.1 RX.out.2.2.2
          simp only [Act.put, List.setIfInBounds_toArray, List.set_cons_succ, List.set_cons_zero]
          refine rel_val (v := .pointer (some ⟨g, c, none⟩)) rfl (fun w' hw => by go_simp) ?_
          simp only [Act.put, List.setIfInBounds_toArray, List.set_cons_succ, List.set_cons_zero]
          refine rel_nil ?_
          intro w4 hB4
          have W4 := Lib.hid (min_below hX.out hB4)
          have W5 := Lib.hid (min_set W4.out c s1)
          have S5 := Lib.hid (minS_step hS.out (by have := HC.out; omega) (by rw [hJ.out.2.2, minors0_ij (mp ms) hJ.out.1 HLT.out]; exact hs1))
          have st := store1 W4.out.t (o := c) HC.out s1
          clear hB4 ra
          go_wp2_with fail
          go_roundw
          case rel => exact ⟨j + 1, c + 1, _, by go_num, by go_num, Lib.hid ⟨by have := hJ.out; omega, by have := HLT.out; omega, by have := hJ.out; omega⟩, S5, W5⟩
          case measure => have := HLT.out; simp [intOf]; omega
        · have hkj : ¬ (j : Int) < 4 := by omega
          have HE := Lib.hid (show c = cntK (i + 1) by have := hJ.out; rw [this.2.2, show j = 4 by omega]; exact cnt_step HI.out)
          clear hlt
          go_wp2_with fail
          go_roundw
          case rel => exact ⟨i + 1, os, by have := HI.out; omega, by rw [HE.out], by go_num, Lib.hid (HE.out ▸ hS.out), hX⟩
          case measure => have := HI.out; simp [intOf]; omega
    · have hki : ¬ (i : Int) < 4 := by omega
      have hi4 : i = 4 := by omega
      subst hi4
      have hS6 : Hid (MinS (minors0 (mp ms)) os 6) := hS
      have E1 := Lib.hid (size152L os hS6.out.1)
      have E2 := Lib.hid (size152A os hS6.out.1)
      have RR := Lib.hid hX.out.r
      have T0 := Lib.hid (thereA hX.out.o.t hS6.out.1)
      have T1 := Lib.hid (thereL hX.out.o.t hS6.out.1)
      have BB := Lib.hid (below_setCells hX.out.o.b (Nat.le_succ _) 0 (os.map (Value.float .f64)))
      clear hlt hi hS hX
      go_wp2_with (first
        | (refine wpList_load_mid rfl 143 (.tmp 7) rfl g 0 rfl (os.map (Value.float .f64)) _ RR.out Try.underlying143 rfl E1.out ?_)
        | (refine wpList_store_mid rfl 143 (.tmp 4) (.tmp 51) rfl (w.heap.size + 1) 0 (os.map (Value.float .f64)).toArray rfl rfl T0.out E2.out (one16 os) ?_))
      refine bodyPost_ret (v := .agg (os.map (Value.float .f64)).toArray) (ret_row Try.prog Try.results78 rfl (os.map (Value.float .f64)) T1.out Try.underlying143 rfl E1.out) rfl ⟨⟨os, rfl, hS6.out⟩, BB.out⟩
def pair8 (m : Nat → Int) (i j : Nat) : Int := lessP (m (8 + i)) (m (12 + j)) (m (8 + j)) (m (12 + i))
def minors8 (m : Nat → Int) : Nat → Int
  | 0 => pair8 m 0 1
  | 1 => pair8 m 0 2
  | 2 => pair8 m 0 3
  | 3 => pair8 m 1 2
  | 4 => pair8 m 1 3
  | _ => pair8 m 2 3
theorem minors8_ij (m : Nat → Int) {i j : Nat} (h : i < j) (hj : j < 4) : minors8 m (cntK i + (j - i - 1)) = pair8 m i j := by
  rcases (by omega : (i = 0 ∧ j = 1) ∨ (i = 0 ∧ j = 2) ∨ (i = 0 ∧ j = 3) ∨ (i = 1 ∧ j = 2) ∨ (i = 1 ∧ j = 3) ∨ (i = 2 ∧ j = 3)) with ⟨rfl, rfl⟩ | ⟨rfl, rfl⟩ | ⟨rfl, rfl⟩ | ⟨rfl, rfl⟩ | ⟨rfl, rfl⟩ | ⟨rfl, rfl⟩ <;> rfl
set_option maxRecDepth 100000 in
set_option maxHeartbeats 2000000 in
theorem k156_8 {ms : List Nat} (hm : MU ms) (w : World) :
    Calls Try.prog 78 #[.agg (ms.map (Value.float .f64)).toArray, .int .i64 8] w fun e w' => (∃ os : List Nat, e = .returned (.agg (os.map (Value.float .f64)).toArray) ∧ MinS (minors8 (mp ms)) os 6) ∧ Below w.heap.size w w' := by
  have HM := Lib.hid hm
  clear hm
  go_enter Try.func78, Try.ntmps78
  go_wp2_with fail
  refine wp_gen (fun wx => Hid (One wx w (ms.map (Value.float .f64)) 6)) (Lib.hid (one_entry w (ms.map (Value.float .f64)) _ 44 143 6 rfl)) ?_
  intro wc hW
  refine wp_region_rel 11 (fun w' => Below wc.heap.size wc w') GEO (by kernel_rfl) (by kernel_rfl) ((Below.refl _ _).drew) ?_
  simp only [List.take_succ_cons, List.take_zero, List.drop_succ_cons, List.drop_zero]
  refine rel_move (v := .int .i64 8) rfl rfl ?_
  simp only [Act.put, List.setIfInBounds_toArray, List.set_cons_succ, List.set_cons_zero]
  refine rel_move (v := .int .i64 8) rfl rfl ?_
  simp only [Act.put, List.setIfInBounds_toArray, List.set_cons_succ, List.set_cons_zero]
  refine rel_val (v := .int .i64 12) rfl (fun w' hw => by go_simp; try decide) ?_
  simp only [Act.put, List.setIfInBounds_toArray, List.set_cons_succ, List.set_cons_zero]
  refine rel_val (v := .slice (some ⟨w.heap.size, 8, none⟩) 4 8) rfl (fun w' hw => by go_simp) ?_
  simp only [Act.put, List.setIfInBounds_toArray, List.set_cons_succ, List.set_cons_zero]
  refine rel_move (v := .int .i64 8) rfl rfl ?_
  simp only [Act.put, List.setIfInBounds_toArray, List.set_cons_succ, List.set_cons_zero]
  refine rel_val (v := .int .i64 12) rfl (fun w' hw => by go_simp; try decide) ?_
  simp only [Act.put, List.setIfInBounds_toArray, List.set_cons_succ, List.set_cons_zero]
  refine rel_move (v := .int .i64 8) rfl rfl ?_
  simp only [Act.put, List.setIfInBounds_toArray, List.set_cons_succ, List.set_cons_zero]
  refine rel_val (v := .int .i64 16) rfl (fun w' hw => by go_simp; try decide) ?_
  simp only [Act.put, List.setIfInBounds_toArray, List.set_cons_succ, List.set_cons_zero]
  refine rel_val (v := .slice (some ⟨w.heap.size, 12, none⟩) 4 4) rfl (fun w' hw => by go_simp) ?_
  simp only [Act.put, List.setIfInBounds_toArray, List.set_cons_succ, List.set_cons_zero]
  refine rel_assign (v := .slice (some ⟨w.heap.size, 8, none⟩) 4 8) rfl rfl ?_
  simp only [Act.put, List.setIfInBounds_toArray, List.set_cons_succ, List.set_cons_zero]
  refine rel_assign (v := .slice (some ⟨w.heap.size, 12, none⟩) 4 4) rfl rfl ?_
  simp only [Act.put, List.setIfInBounds_toArray, List.set_cons_succ, List.set_cons_zero]
  refine rel_nil ?_
  intro w3 hB3
  have W3 := Lib.hid (min_start (one_below hW.out hB3))
  clear hB3 hW
  go_upto_region 3 with fail
  refine wp_gen (fun wx => Hid (MinW wx w (ms.map (Value.float .f64)) w3.heap.size (List.replicate 6 0))) W3 ?_
  intro wd hW
  clear W3
  generalize w3.heap.size = g at *
  go_wp2_with fail
  go_loopw [8, 20] (fun kk ii wx => ∃ (i : Nat) (os : List Nat), i ≤ 4 ∧ kk = .int .i64 (cntK i : Nat) ∧ ii = .int .i64 (i : Nat) ∧ Hid (MinS (minors8 (mp ms)) os (cntK i)) ∧ Hid (MinW wx w (ms.map (Value.float .f64)) g os)) (fun _ ii _ => 4 - (intOf ii).toNat)
  case atStart => exact ⟨0, _, by omega, rfl, rfl, Lib.hid minS_start, hW⟩
  case round =>
    obtain ⟨i, os, hi, rfl, rfl, hS, hX⟩ := hrel
    clear hW
    by_cases hlt : i < 4
    · have hki : (i : Int) < 4 := by omega
      have HI := Lib.hid hlt
      generalize hcK : cntK i = c0 at *
      have HK := Lib.hid hcK
      clear hlt hcK hi
      go_wp2_with fail
      go_loopw [8, 10] (fun kk jj wx => ∃ (j c : Nat) (os : List Nat), kk = .int .i64 (c : Nat) ∧ jj = .int .i64 (j : Nat) ∧ Hid (i < j ∧ j ≤ 4 ∧ c = cntK i + (j - i - 1)) ∧ Hid (MinS (minors8 (mp ms)) os c) ∧ Hid (MinW wx w (ms.map (Value.float .f64)) g os)) (fun _ jj _ => 4 - (intOf jj).toNat)
      case atStart => exact ⟨i + 1, c0, os, rfl, by go_num, Lib.hid ⟨by omega, by have := HI.out; omega, by rw [HK.out]; omega⟩, hS, hX⟩
      case round =>
        obtain ⟨j, c, os, rfl, rfl, hJ, hS, hX⟩ := hrel
        by_cases hlt : j < 4
        · have hkj : (j : Int) < 4 := by omega
          have hj0 : (0 : Int) ≤ (j : Int) := by omega
          have hi0 : (0 : Int) ≤ (i : Int) := by omega
          have hc0 : (0 : Int) ≤ (c : Int) := by omega
          have HC := Lib.hid (cnt_lt hJ.out.1 hlt hJ.out.2.2)
          have hc6 : (c : Int) < 6 := by have := HC.out; omega
          have HLT := Lib.hid hlt
          obtain ⟨m0, c0, r0⟩ := HM.out.get (j := 8 + i) (by omega)
          obtain ⟨m1, c1, r1⟩ := HM.out.get (j := 12 + j) (by omega)
          obtain ⟨m2, c2, r2⟩ := HM.out.get (j := 8 + j) (by omega)
          obtain ⟨m3, c3, r3⟩ := HM.out.get (j := 12 + i) (by omega)
          have RX := Lib.hid (And.intro r0 (And.intro r1 (And.intro r2 r3)))
          have C0 := Lib.hid (map_get c0)
          have C1 := Lib.hid (map_get c1)
          have C2 := Lib.hid (map_get c2)
          have C3 := Lib.hid (map_get c3)
          clear c0 c1 c2 c3 r0 r1 r2 r3 hlt
          go_upto_region 10 with fail
          have ra : ∀ w', Below wr.heap.size wr w' → w'.rangeAt w.heap.size 0 (ms.map (Value.float .f64)) := fun w' hw => range_below hX.out.o.r1 hw (by have := hX.out.o.lt; omega)
          refine wp_region_rel 19 (fun w' => Below wr.heap.size wr w') GEM (by kernel_rfl) (by kernel_rfl) ((Below.refl _ _).drew) ?_
          simp only [List.take_succ_cons, List.take_zero, List.drop_succ_cons, List.drop_zero]
          refine rel_move (v := .int .i64 (c : Int)) rfl rfl ?_
          simp only [Act.put, List.setIfInBounds_toArray, List.set_cons_succ, List.set_cons_zero]
          refine rel_move (v := .slice (some ⟨w.heap.size, 8, none⟩) 4 8) rfl rfl ?_
          simp only [Act.put, List.setIfInBounds_toArray, List.set_cons_succ, List.set_cons_zero]
          refine rel_move (v := .int .i64 (i : Int)) rfl rfl ?_
          simp only [Act.put, List.setIfInBounds_toArray, List.set_cons_succ, List.set_cons_zero]
          refine rel_val (v := .pointer (some ⟨w.heap.size, 8 + i, none⟩)) rfl (fun w' hw => by go_simp) ?_
          simp only [Act.put, List.setIfInBounds_toArray, List.set_cons_succ, List.set_cons_zero]
          refine rel_loadF (w.heap.size) (8 + i) m0 rfl rfl (fun w' hw => ra w' hw (8 + i) _ C0.out) ?_
          simp only [Act.put, List.setIfInBounds_toArray, List.set_cons_succ, List.set_cons_zero]
          refine rel_move (v := .slice (some ⟨w.heap.size, 12, none⟩) 4 4) rfl rfl ?_
          simp only [Act.put, List.setIfInBounds_toArray, List.set_cons_succ, List.set_cons_zero]
          refine rel_move (v := .int .i64 (j : Int)) rfl rfl ?_
          simp only [Act.put, List.setIfInBounds_toArray, List.set_cons_succ, List.set_cons_zero]
          refine rel_val (v := .pointer (some ⟨w.heap.size, 12 + j, none⟩)) rfl (fun w' hw => by go_simp) ?_
          simp only [Act.put, List.setIfInBounds_toArray, List.set_cons_succ, List.set_cons_zero]
          refine rel_loadF (w.heap.size) (12 + j) m1 rfl rfl (fun w' hw => ra w' hw (12 + j) _ C1.out) ?_
          simp only [Act.put, List.setIfInBounds_toArray, List.set_cons_succ, List.set_cons_zero]
          refine rel_move (v := .slice (some ⟨w.heap.size, 8, none⟩) 4 8) rfl rfl ?_
          simp only [Act.put, List.setIfInBounds_toArray, List.set_cons_succ, List.set_cons_zero]
          refine rel_move (v := .int .i64 (j : Int)) rfl rfl ?_
          simp only [Act.put, List.setIfInBounds_toArray, List.set_cons_succ, List.set_cons_zero]
          refine rel_val (v := .pointer (some ⟨w.heap.size, 8 + j, none⟩)) rfl (fun w' hw => by go_simp) ?_
          simp only [Act.put, List.setIfInBounds_toArray, List.set_cons_succ, List.set_cons_zero]
          refine rel_loadF (w.heap.size) (8 + j) m2 rfl rfl (fun w' hw => ra w' hw (8 + j) _ C2.out) ?_
          simp only [Act.put, List.setIfInBounds_toArray, List.set_cons_succ, List.set_cons_zero]
          refine rel_move (v := .slice (some ⟨w.heap.size, 12, none⟩) 4 4) rfl rfl ?_
          simp only [Act.put, List.setIfInBounds_toArray, List.set_cons_succ, List.set_cons_zero]
          refine rel_move (v := .int .i64 (i : Int)) rfl rfl ?_
          simp only [Act.put, List.setIfInBounds_toArray, List.set_cons_succ, List.set_cons_zero]
          refine rel_val (v := .pointer (some ⟨w.heap.size, 12 + i, none⟩)) rfl (fun w' hw => by go_simp) ?_
          simp only [Act.put, List.setIfInBounds_toArray, List.set_cons_succ, List.set_cons_zero]
          refine rel_loadF (w.heap.size) (12 + i) m3 rfl rfl (fun w' hw => ra w' hw (12 + i) _ C3.out) ?_
          simp only [Act.put, List.setIfInBounds_toArray, List.set_cons_succ, List.set_cons_zero]
          refine rel_call (f := 80) (args := #[.float .f64 m0, .float .f64 m1, .float .f64 m2, .float .f64 m3]) rfl (fun w' hw => by go_simp) (fun w' hw => g158 RX.out.1 RX.out.2.1 RX.out.2.2.1 RX.out.2.2.2 hw) (fun v hv => ?_)
          obtain ⟨s1, rfl, hs1⟩ := G158 hv RX.out.1 RX.out.2.1 RX.out.2.2.1 RX.out.2.2.2
          simp only [Act.put, List.setIfInBounds_toArray, List.set_cons_succ, List.set_cons_zero]
          refine rel_val (v := .pointer (some ⟨g, c, none⟩)) rfl (fun w' hw => by go_simp) ?_
          simp only [Act.put, List.setIfInBounds_toArray, List.set_cons_succ, List.set_cons_zero]
          refine rel_nil ?_
          intro w4 hB4
          have W4 := Lib.hid (min_below hX.out hB4)
          have W5 := Lib.hid (min_set W4.out c s1)
          have S5 := Lib.hid (minS_step hS.out (by have := HC.out; omega) (by rw [hJ.out.2.2, minors8_ij (mp ms) hJ.out.1 HLT.out]; exact hs1))
          have st := store1 W4.out.t (o := c) HC.out s1
          clear hB4 ra
          go_wp2_with fail
          go_roundw
          case rel => exact ⟨j + 1, c + 1, _, by go_num, by go_num, Lib.hid ⟨by have := hJ.out; omega, by have := HLT.out; omega, by have := hJ.out; omega⟩, S5, W5⟩
          case measure => have := HLT.out; simp [intOf]; omega
        · have hkj : ¬ (j : Int) < 4 := by omega
          have HE := Lib.hid (show c = cntK (i + 1) by have := hJ.out; rw [this.2.2, show j = 4 by omega]; exact cnt_step HI.out)
          clear hlt
          go_wp2_with fail
          go_roundw
          case rel => exact ⟨i + 1, os, by have := HI.out; omega, by rw [HE.out], by go_num, Lib.hid (HE.out ▸ hS.out), hX⟩
          case measure => have := HI.out; simp [intOf]; omega
    · have hki : ¬ (i : Int) < 4 := by omega
      have hi4 : i = 4 := by omega
      subst hi4
      have hS6 : Hid (MinS (minors8 (mp ms)) os 6) := hS
      have E1 := Lib.hid (size152L os hS6.out.1)
      have E2 := Lib.hid (size152A os hS6.out.1)
      have RR := Lib.hid hX.out.r
      have T0 := Lib.hid (thereA hX.out.o.t hS6.out.1)
      have T1 := Lib.hid (thereL hX.out.o.t hS6.out.1)
      have BB := Lib.hid (below_setCells hX.out.o.b (Nat.le_succ _) 0 (os.map (Value.float .f64)))
      clear hlt hi hS hX
      go_wp2_with (first
        | (refine wpList_load_mid rfl 143 (.tmp 7) rfl g 0 rfl (os.map (Value.float .f64)) _ RR.out Try.underlying143 rfl E1.out ?_)
        | (refine wpList_store_mid rfl 143 (.tmp 4) (.tmp 51) rfl (w.heap.size + 1) 0 (os.map (Value.float .f64)).toArray rfl rfl T0.out E2.out (one16 os) ?_))
      refine bodyPost_ret (v := .agg (os.map (Value.float .f64)).toArray) (ret_row Try.prog Try.results78 rfl (os.map (Value.float .f64)) T1.out Try.underlying143 rfl E1.out) rfl ⟨⟨os, rfl, hS6.out⟩, BB.out⟩
end Go.Proofs.Ytedkbjimofiphaa
