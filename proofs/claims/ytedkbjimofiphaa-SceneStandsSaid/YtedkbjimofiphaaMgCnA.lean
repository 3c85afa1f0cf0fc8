/- scene.corners. scene.corners: the walk. -/
import Derived.Test.YtedkbjimofiphaaMgRpB
import Derived.Test.YtedkbjimofiphaaMgGeoW
import Derived.Test.YtedkbjimofiphaaRelU
namespace Go.Proofs.Ytedkbjimofiphaa
open Go.RowKit Fl
noncomputable def tr41 (n : Nat) : Code := (Try.f41.body.bind (findRegion n)).getD .skip
theorem range_setF {w : World} {g i x : Nat} {xs : List Nat} (h : w.rangeAt g 0 (xs.map (Value.float .f64))) (hi : i < xs.length) : (w.setCell ⟨g, i, none⟩ (.float .f64 x)).rangeAt g 0 ((xs.set i x).map (Value.float .f64)) := fun j v hj => by
  rw [List.getElem?_map, List.getElem?_set] at hj
  rw [Nat.zero_add]
  by_cases e : i = j
  · subst e
    rw [if_pos rfl, if_pos hi] at hj
    obtain ⟨old, ho⟩ : ∃ old, w.cell? ⟨g, i, none⟩ = some old := ⟨_, by have := h i (.float .f64 xs[i]) (by rw [List.getElem?_map, List.getElem?_eq_getElem hi]; rfl); rwa [Nat.zero_add] at this⟩
    rw [World.cell?_setCell_same _ _ _ ho]
    exact hj
  · rw [if_neg e] at hj
    rw [World.cell?_setCell_other _ _ _ _ (by intro e2; injection e2 with _ e2; exact e e2)]
    have := h j v (by rw [List.getElem?_map]; exact hj)
    rwa [Nat.zero_add] at this
theorem run_storeF (w : World) (g i x : Nat) {c : Nat} (h : w.there g 0 c) (hi : i < c) : (store ⟨g, i, none⟩ (.float .f64 x)).run Try.prog w = .ok () (w.setCell ⟨g, i, none⟩ (.float .f64 x)) := by
  obtain ⟨h1, h2⟩ := h i hi
  rw [Nat.zero_add] at h1 h2
  obtain ⟨z, hz⟩ := Option.isSome_iff_exists.1 h1
  rw [run_store Try.prog _ _ _ _ rfl, hz, h2]; rfl
/-- where corners' rows stand: one is another in its i-th -/
def CC (w : World) (g i : Nat) (xs : List Nat) (w' : World) : Prop := Keep w.heap.size (fun k => k = g) w w' ∧ w'.there g 0 4 ∧ ∃ r, w'.rangeAt g 0 ((xs.set i r).map (Value.float .f64))
def CR (g i : Nat) (xs : List Nat) (X : Int) (w' : World) : Prop := ∃ r, RV r X ∧ w'.rangeAt g 0 ((xs.set i r).map (Value.float .f64))
set_option maxRecDepth 100000 in
set_option maxHeartbeats 2000000 in
theorem creg5 {Q : Exit → Act → World → Prop} (w : World) (g4 g5 pz i x y z u : Nat) (xs ys : List Nat) (u0 u1 u2 u3 u8 u9 u10 u11 u12 u13 u14 u15 u16 u17 u18 u19 u20 u21 u22 u23 u24 u25 u26 u27 u28 u29 u30 u31 u32 u33 : Value) (hx : U x) (hy : U y) (hu : U u) (cp : w.rangeAt pz 0 [.float .f64 x, .float .f64 y, .float .f64 z, .float .f64 u]) (hi : i < 4)
    (r4 : w.rangeAt g4 0 (xs.map (Value.float .f64))) (r5 : w.rangeAt g5 0 (ys.map (Value.float .f64))) (l4 : xs.length = 4) (l5 : ys.length = 4) (t4 : w.there g4 0 4) (t5 : w.there g5 0 4) (n4 : g4 ≠ pz) (n45 : g4 ≠ g5) (lp : pz < w.heap.size) (lg4 : g4 < w.heap.size) (lg5 : g5 < w.heap.size)
    (hfin : ∀ (v17 v18 v19 v20 v21 v22 v23 v24 v25 v26 v27 v28 v29 v30 : Value) (r s : Nat) (w' : World), RV r (opP .quo (pl x) (pl u)) → RV s (opP .quo (pl y) (pl u)) → Keep w.heap.size (fun k => k = g4 ∨ k = g5) w w' → w'.rangeAt g4 0 ((xs.set i r).map (Value.float .f64)) → w'.rangeAt g5 0 ((ys.set i s).map (Value.float .f64)) → w'.there g4 0 4 → w'.there g5 0 4 → Q .normal ⟨List.toArray (u0 :: u1 :: u2 :: u3 :: .pointer (some ⟨g4, 0, none⟩) :: .pointer (some ⟨g5, 0, none⟩) :: .int .i64 (i : Int) :: .pointer (some ⟨pz, 0, none⟩) :: u8 :: u9 :: u10 :: u11 :: u12 :: u13 :: u14 :: u15 :: u16 :: v17 :: v18 :: v19 :: v20 :: v21 :: v22 :: v23 :: v24 :: v25 :: v26 :: v27 :: v28 :: v29 :: v30 :: u31 :: u32 :: u33 :: []), []⟩ w') : Code.wp Try.prog (tr41 5) Q ⟨List.toArray (u0 :: u1 :: u2 :: u3 :: .pointer (some ⟨g4, 0, none⟩) :: .pointer (some ⟨g5, 0, none⟩) :: .int .i64 (i : Int) :: .pointer (some ⟨pz, 0, none⟩) :: u8 :: u9 :: u10 :: u11 :: u12 :: u13 :: u14 :: u15 :: u16 :: u17 :: u18 :: u19 :: u20 :: u21 :: u22 :: u23 :: u24 :: u25 :: u26 :: u27 :: u28 :: u29 :: u30 :: u31 :: u32 :: u33 :: []), []⟩ w := by
  have HF := Lib.hid hfin
  have CE := Lib.hid (show ∀ o v w', Keep w.heap.size (fun k => k = g4) w w' → [Value.float .f64 x, .float .f64 y, .float .f64 z, .float .f64 u][o]? = some v → w'.cell? ⟨pz, 0 + o, none⟩ = some v from fun o v w' hk hv => (hk.cell (p := ⟨pz, 0 + o, none⟩) lp (fun e => n4 e.symm)).trans (cp o v hv))
  have HU := Lib.hid (And.intro (RV.self hx) (And.intro (RV.self hy) (RV.self hu)))
  have G5 := Lib.hid (show ∀ w', Keep w.heap.size (fun k => k = g4) w w' → w'.rangeAt g5 0 (ys.map (Value.float .f64)) ∧ w'.there g5 0 4 from fun w' hk => ⟨range_keep r5 hk lg5 (fun e => n45 e.symm), there_keep t5 hk lg5 (fun e => n45 e.symm)⟩)
  have HL := Lib.hid (And.intro l4 (And.intro l5 (And.intro n45 (And.intro lg4 lg5))))
  have hi2 : (i : Int) < 4 := by omega
  have C0 := Lib.hid (show CC w g4 i xs { w with drawn := w.drawn + 1 } from ⟨⟨rfl, rfl, rfl, Nat.le_refl _, fun _ _ _ => rfl⟩, t4, xs[i]'(by omega), by
    rw [List.set_getElem_self]; exact r4⟩)
  clear hfin cp hx hy hu r4 r5 l4 l5 t4 t5 n4 n45 lp lg4 lg5
  conv => arg 2; whnf
  refine RU.wp_region_store 14 13 (CC w g4 i xs) (CR g4 i xs (opP .quo (pl x) (pl u))) (fun _ _ _ => False) (by kernel_rfl) (by kernel_rfl) C0.out (by decide) rfl ?_
  simp only [List.take_succ_cons, List.take_zero, List.drop_succ_cons, List.drop_zero]
  refine RU.rel_move (v := .int .i64 (i : Int)) rfl rfl nofun ?_
  simp only [Act.put, List.setIfInBounds_toArray, List.set_cons_succ, List.set_cons_zero]
  refine RU.rel_move (v := .int .i64 (i : Int)) rfl rfl nofun ?_
  simp only [Act.put, List.setIfInBounds_toArray, List.set_cons_succ, List.set_cons_zero]
  refine RU.rel_val (v := .pointer (some ⟨pz, 0, none⟩)) rfl nofun (fun w' hw => by go_simp) ?_
  simp only [Act.put, List.setIfInBounds_toArray, List.set_cons_succ, List.set_cons_zero]
  refine RU.rel_loadF pz 0 x rfl rfl nofun (fun w' hw => CE.out 0 (.float .f64 x) w' hw.1 (by simp)) ?_
  simp only [Act.put, List.setIfInBounds_toArray, List.set_cons_succ, List.set_cons_zero]
  refine RU.rel_val (v := .pointer (some ⟨pz, 3, none⟩)) rfl nofun (fun w' hw => by go_simp) ?_
  simp only [Act.put, List.setIfInBounds_toArray, List.set_cons_succ, List.set_cons_zero]
  refine RU.rel_loadF pz 3 u rfl rfl nofun (fun w' hw => CE.out 3 (.float .f64 u) w' hw.1 (by simp)) ?_
  simp only [Act.put, List.setIfInBounds_toArray, List.set_cons_succ, List.set_cons_zero]
  refine RU.rel_fop (op := .quo) rfl rfl rfl HU.out.1 HU.out.2.2 rfl nofun (fun w' k h => ⟨h.1.trans (Keep.of_below ⟨rfl, rfl, rfl, Nat.le_refl _, fun _ _ => rfl⟩), h.2.1, h.2.2⟩) (fun w' k h => h) (fun r hr => ?_)
  simp only [Act.put, List.setIfInBounds_toArray, List.set_cons_succ, List.set_cons_zero]
  refine RU.rel_val (v := .pointer (some ⟨pz, 1, none⟩)) rfl nofun (fun w' hw => by go_simp) ?_
  simp only [Act.put, List.setIfInBounds_toArray, List.set_cons_succ, List.set_cons_zero]
  refine RU.rel_loadF pz 1 y rfl rfl nofun (fun w' hw => CE.out 1 (.float .f64 y) w' hw.1 (by simp)) ?_
  simp only [Act.put, List.setIfInBounds_toArray, List.set_cons_succ, List.set_cons_zero]
  refine RU.rel_val (v := .pointer (some ⟨pz, 3, none⟩)) rfl nofun (fun w' hw => by go_simp) ?_
  simp only [Act.put, List.setIfInBounds_toArray, List.set_cons_succ, List.set_cons_zero]
  refine RU.rel_loadF pz 3 u rfl rfl nofun (fun w' hw => CE.out 3 (.float .f64 u) w' hw.1 (by simp)) ?_
  simp only [Act.put, List.setIfInBounds_toArray, List.set_cons_succ, List.set_cons_zero]
  refine RU.rel_fop (op := .quo) rfl rfl rfl HU.out.2.1 HU.out.2.2 rfl nofun (fun w' k h => ⟨h.1.trans (Keep.of_below ⟨rfl, rfl, rfl, Nat.le_refl _, fun _ _ => rfl⟩), h.2.1, h.2.2⟩) (fun w' k h => h) (fun s hs => ?_)
  simp only [Act.put, List.setIfInBounds_toArray, List.set_cons_succ, List.set_cons_zero]
  refine RU.rel_val (v := .pointer (some ⟨g4, i, none⟩)) rfl nofun (fun w' hw => by go_simp) ?_
  simp only [Act.put, List.setIfInBounds_toArray, List.set_cons_succ, List.set_cons_zero]
  refine RU.rel_skip rfl (fun w' hw => ⟨w'.setCell ⟨g4, i, none⟩ (.float .f64 r), by have st := run_storeF w' g4 i r hw.2.1 hi; go_simp, ?_, ?_⟩) ?_
  · obtain ⟨r0, h0⟩ := hw.2.2
    refine ⟨hw.1.set _ _ (fun _ => rfl), there_set hw.2.1 _ _, r, ?_⟩
    have := range_setF (x := r) h0 (i := i) (by rw [List.length_set]; have := HL.out.1; omega)
    rwa [List.set_set] at this
  · obtain ⟨r0, h0⟩ := hw.2.2
    refine ⟨r, hr, ?_⟩
    have := range_setF (x := r) h0 (i := i) (by rw [List.length_set]; have := HL.out.1; omega)
    rwa [List.set_set] at this
  simp only [Act.put, List.setIfInBounds_toArray, List.set_cons_succ, List.set_cons_zero]
  refine RU.rel_nil ?_
  intro w' hw ⟨r1, hr1, hg1⟩
  obtain ⟨g51, g52⟩ := G5.out w' hw.1
  have st := run_storeF w' g5 i s g52 hi
  have K1 := hw.1.mono (ex' := fun k => k = g4 ∨ k = g5) (Nat.le_refl _) (fun _ _ h => Or.inl h)
  have K2 := Lib.hid (K1.set ⟨g5, i, none⟩ (.float .f64 s) (fun _ => Or.inr rfl))
  have A4 := Lib.hid (show (w'.setCell ⟨g5, i, none⟩ (.float .f64 s)).rangeAt g4 0 ((xs.set i r1).map (Value.float .f64)) from fun j v hj => (World.cell?_setCell_other _ _ _ _ (by intro e; injection e with e; exact HL.out.2.2.1 e.symm)).trans (hg1 j v hj))
  have A5 := Lib.hid (range_setF (x := s) g51 (i := i) (by have := HL.out.2.1; omega))
  have T4 := Lib.hid (there_set hw.2.1 ⟨g5, i, none⟩ (.float .f64 s))
  have T5 := Lib.hid (there_set g52 ⟨g5, i, none⟩ (.float .f64 s))
  have HR := Lib.hid (And.intro hr1 hs)
  clear hw hg1 g51 g52 hr hs hr1 K1
  go_wp2
  exact HF.out _ _ _ _ _ _ _ _ _ _ _ _ _ _ r1 s _ HR.out.1 HR.out.2 K2.out A4.out A5.out T4.out T5.out
theorem size102 {xs : List Nat} (h : xs.length = 4) : (Try.prog.info? 102).map (·.size) = some (xs.map (Value.float .f64)).length := by
  rw [List.length_map, h]; kernel_rfl
theorem oneF (xs : List Nat) : (xs.map (Value.float .f64)).toArray.all (·.oneCell') = true := all_oneCell_toArray fun u hu => by
  obtain ⟨_, _, rfl⟩ := List.mem_map.1 hu; rfl
set_option maxRecDepth 100000 in
set_option maxHeartbeats 2000000 in
theorem creg7 {Q : Exit → Act → World → Prop} (w : World) (g4 g5 r2 r3 : Nat) (xs ys : List Nat) (u0 u1 u6 u7 u8 u9 u10 u11 u12 u13 u14 u15 u16 u17 u18 u19 u20 u21 u22 u23 u24 u25 u26 u27 u28 u29 u30 u31 u32 u33 : Value) (r4 : w.rangeAt g4 0 (xs.map (Value.float .f64))) (r5 : w.rangeAt g5 0 (ys.map (Value.float .f64))) (l4 : xs.length = 4) (l5 : ys.length = 4)
    (t2 : w.there r2 0 4) (t3 : w.there r3 0 4) (lg4 : g4 < w.heap.size) (lg5 : g5 < w.heap.size) (lr2 : r2 < w.heap.size) (lr3 : r3 < w.heap.size) (n1 : g4 ≠ r2) (n2 : g5 ≠ r2) (n3 : r3 ≠ r2)
    (hfin : ∀ (v32 v33 : Value) (w' : World), Keep w.heap.size (fun k => k = r2 ∨ k = r3) w w' → w'.rangeAt r2 0 (xs.map (Value.float .f64)) → w'.rangeAt r3 0 (ys.map (Value.float .f64)) → Q .normal ⟨List.toArray (u0 :: u1 :: .pointer (some ⟨r2, 0, none⟩) :: .pointer (some ⟨r3, 0, none⟩) :: .pointer (some ⟨g4, 0, none⟩) :: .pointer (some ⟨g5, 0, none⟩) :: u6 :: u7 :: u8 :: u9 :: u10 :: u11 :: u12 :: u13 :: u14 :: u15 :: u16 :: u17 :: u18 :: u19 :: u20 :: u21 :: u22 :: u23 :: u24 :: u25 :: u26 :: u27 :: u28 :: u29 :: u30 :: u31 :: v32 :: v33 :: []), []⟩ w') : Code.wp Try.prog (tr41 7) Q ⟨List.toArray (u0 :: u1 :: .pointer (some ⟨r2, 0, none⟩) :: .pointer (some ⟨r3, 0, none⟩) :: .pointer (some ⟨g4, 0, none⟩) :: .pointer (some ⟨g5, 0, none⟩) :: u6 :: u7 :: u8 :: u9 :: u10 :: u11 :: u12 :: u13 :: u14 :: u15 :: u16 :: u17 :: u18 :: u19 :: u20 :: u21 :: u22 :: u23 :: u24 :: u25 :: u26 :: u27 :: u28 :: u29 :: u30 :: u31 :: u32 :: u33 :: []), []⟩ w := by
  have HF := Lib.hid hfin
  have G := Lib.hid (show ∀ w', Keep w.heap.size (fun k => k = r2) w w' → w'.rangeAt g4 0 (xs.map (Value.float .f64)) ∧ w'.rangeAt g5 0 (ys.map (Value.float .f64)) ∧ w'.there r3 0 4 from fun w' hk => ⟨range_keep r4 hk lg4 n1, range_keep r5 hk lg5 n2, there_keep t3 hk lr3 n3⟩)
  have S4 := Lib.hid (size102 l4)
  have S5 := Lib.hid (size102 l5)
  have L4 := Lib.hid (show (xs.map (Value.float .f64)).toArray.size = 4 by rw [List.size_toArray, List.length_map, l4])
  have L5 := Lib.hid (show (ys.map (Value.float .f64)).toArray.size = 4 by rw [List.size_toArray, List.length_map, l5])
  have N := Lib.hid (And.intro n3 (And.intro lr2 lr3))
  have C0 := Lib.hid (show Keep w.heap.size (fun k => k = r2) w { w with drawn := w.drawn + 1 } ∧ World.there { w with drawn := w.drawn + 1 } r2 0 4 from ⟨⟨rfl, rfl, rfl, Nat.le_refl _, fun _ _ _ => rfl⟩, t2⟩)
  clear hfin r4 r5 l4 l5 t2 t3 lg4 lg5 lr2 lr3 n1 n2 n3
  conv => arg 2; whnf
  refine RU.wp_region_store 3 2 (fun w' => Keep w.heap.size (fun k => k = r2) w w' ∧ w'.there r2 0 4) (fun w' => w'.rangeAt r2 0 (xs.map (Value.float .f64))) (fun _ _ _ => False) (by kernel_rfl) (by kernel_rfl) C0.out (by decide) rfl ?_
  simp only [List.take_succ_cons, List.take_zero, List.drop_succ_cons, List.drop_zero]
  refine RU.rel_load_row g4 0 (xs.map (Value.float .f64)) _ rfl rfl nofun (fun w' hw => (G.out w' hw.1).1) Try.underlying102 rfl S4.out ?_
  simp only [Act.put, List.setIfInBounds_toArray, List.set_cons_succ, List.set_cons_zero]
  refine RU.rel_load_row g5 0 (ys.map (Value.float .f64)) _ rfl rfl nofun (fun w' hw => (G.out w' hw.1).2.1) Try.underlying102 rfl S5.out ?_
  simp only [Act.put, List.setIfInBounds_toArray, List.set_cons_succ, List.set_cons_zero]
  refine RU.rel_skip rfl (fun w' hw => ⟨w'.setCells r2 0 (xs.map (Value.float .f64)), ?_, ⟨hw.1.trans (Keep.of_only ((Only.refl r2 w').setCells 0 _) hw.1.size (fun _ => rfl)), World.there_setCells hw.2 _ _ _⟩, World.rangeAt_setCells_same w' r2 0 _ (by have := L4.out; rw [List.size_toArray] at this; rw [this]; exact hw.2)⟩) ?_
  · unfold execOp
    have st := run_storeAt_mid (P := Try.prog) w' r2 0 102 (xs.map (Value.float .f64)).toArray (by rw [L4.out]; exact hw.2) (by rw [List.size_toArray]; exact S4.out) (oneF xs)
    simp only [Sem.run_bind, Sem.run_pure, Result.andThen_ok]
    refine (congrArg (fun r => Result.andThen r _) st).trans ?_
    rfl
  simp only [Act.put, List.setIfInBounds_toArray, List.set_cons_succ, List.set_cons_zero]
  refine RU.rel_nil ?_
  intro w' hw hr2
  obtain ⟨_, _, t3⟩ := G.out w' hw.1
  have T3 := Lib.hid (show w'.there r3 0 (ys.map (Value.float .f64)).toArray.size by rw [L5.out]; exact t3)
  have K1 := hw.1.mono (ex' := fun k => k = r2 ∨ k = r3) (Nat.le_refl _) (fun _ _ h => Or.inl h)
  have K2 := Lib.hid (K1.trans (Keep.of_only ((Only.refl r3 w').setCells 0 (ys.map (Value.float .f64))) hw.1.size (fun _ => Or.inr rfl)))
  have A2 := Lib.hid (World.rangeAt_setCells_apart hr2 r3 0 (ys.map (Value.float .f64)) (.inl N.out.1.symm))
  have A3 := Lib.hid (World.rangeAt_setCells_same w' r3 0 (ys.map (Value.float .f64)) (by have := L5.out; rw [List.size_toArray] at this; rw [this]; exact t3))
  have S5a := Lib.hid (show (Try.prog.info? 102).map (·.size) = some (ys.map (Value.float .f64)).toArray.size by rw [List.size_toArray]; exact S5.out)
  clear hw hr2 t3 K1
  go_wp2_with (refine wpList_store_mid rfl 102 (.tmp 3) (.tmp 33) rfl r3 0 (ys.map (Value.float .f64)).toArray rfl rfl T3.out S5a.out (oneF ys) ?_)
  exact HF.out _ _ _ K2.out A2.out A3.out
end Go.Proofs.Ytedkbjimofiphaa

namespace Go.Proofs.Ytedkbjimofiphaa
open Go.RowKit Fl
/-- corners in the plane, by places -/
def qP (t : ITM) (k : Nat) : Int := (cornersP (mp t.m) (pl t.x) (pl t.y) (pl t.w) (pl t.h)).getD k 0
def cxP (t : ITM) (j : Nat) : Int := opP .quo (qP t (4 * j)) (qP t (4 * j + 3))
def cyP (t : ITM) (j : Nat) : Int := opP .quo (qP t (4 * j + 1)) (qP t (4 * j + 3))
def FV (n : Nat) (xs : List Nat) (f : Nat → Int) : Prop := ∀ j, j < n → RV (xs.getD j 0) (f j)
theorem FV.set {n r : Nat} {xs : List Nat} {f : Nat → Int} (h : FV n xs f) (hl : n < xs.length) (hr : RV r (f n)) : FV (n + 1) (xs.set n r) f := fun j hj => by
  rw [List.getD_eq_getElem?_getD, List.getElem?_set]
  by_cases e : n = j
  · subst e; rw [if_pos rfl, if_pos hl]; exact hr
  · rw [if_neg e, ← List.getD_eq_getElem?_getD]; exact h j (by omega)
structure CN (w0 w : World) (r2 r3 g4 g5 : Nat) (xs ys : List Nat) : Prop where
  a4 : w.rangeAt g4 0 (xs.map (Value.float .f64))
  a5 : w.rangeAt g5 0 (ys.map (Value.float .f64))
  t4 : w.there g4 0 4
  t5 : w.there g5 0 4
  t2 : w.there r2 0 4
  t3 : w.there r3 0 4
  l2 : w0.heap.size ≤ r2
  l3 : r2 < r3
  l4 : r3 < g4
  l5 : g4 < g5
  l : g5 < w.heap.size
  b : Below w0.heap.size w0 w
  x4 : xs.length = 4
  y4 : ys.length = 4
theorem CN.below {w0 w w' : World} {r2 r3 g4 g5 : Nat} {xs ys : List Nat} (h : CN w0 w r2 r3 g4 g5 xs ys) (hb : Below w.heap.size w w') : CN w0 w' r2 r3 g4 g5 xs ys := by
  have e := h.l; have e5 := h.l5; have e4 := h.l4; have e3 := h.l3
  exact ⟨range_below h.a4 hb (by omega), range_below h.a5 hb (by omega), there_below h.t4 hb (by omega), there_below h.t5 hb (by omega), there_below h.t2 hb (by omega), there_below h.t3 hb (by omega), h.l2, h.l3, h.l4, h.l5, Nat.lt_of_lt_of_le e hb.size, h.b.trans (hb.mono h.b.size), h.x4, h.y4⟩
theorem CN.step {w0 w w' : World} {r2 r3 g4 g5 : Nat} {xs ys xs' ys' : List Nat} (h : CN w0 w r2 r3 g4 g5 xs ys) (hk : Keep w.heap.size (fun k => k = g4 ∨ k = g5) w w') (a4 : w'.rangeAt g4 0 (xs'.map (Value.float .f64))) (a5 : w'.rangeAt g5 0 (ys'.map (Value.float .f64))) (t4 : w'.there g4 0 4) (t5 : w'.there g5 0 4) (lx : xs'.length = 4) (ly : ys'.length = 4) : CN w0 w' r2 r3 g4 g5 xs' ys' := by
  have e := h.l; have e5 := h.l5; have e4 := h.l4; have e3 := h.l3; have e2 := h.l2
  exact ⟨a4, a5, t4, t5, there_keep h.t2 hk (by omega) (by omega), there_keep h.t3 hk (by omega) (by omega), h.l2, h.l3, h.l4, h.l5, Nat.lt_of_lt_of_le e hk.size, h.b.trans ((hk.mono h.b.size (fun _ _ h => h)).below _ (Nat.le_refl _) (fun k hk e => by omega)), lx, ly⟩
def z4 : List Nat := [0, 0, 0, 0]
theorem CN.start (w : World) : CN w ((((w.alloc (.cells #[.float .f64 0, .float .f64 0, .float .f64 0, .float .f64 0] 102)).alloc (.cells #[.float .f64 0, .float .f64 0, .float .f64 0, .float .f64 0] 102)).alloc (.cells #[.float .f64 0, .float .f64 0, .float .f64 0, .float .f64 0] 102)).alloc (.cells #[.float .f64 0, .float .f64 0, .float .f64 0, .float .f64 0] 102)) w.heap.size (w.heap.size + 1) (w.heap.size + 1 + 1) (w.heap.size + 1 + 1 + 1) z4 z4 := by
  have s1 : (w.alloc (.cells #[.float .f64 0, .float .f64 0, .float .f64 0, .float .f64 0] 102)).heap.size = w.heap.size + 1 := by simp
  have s2 : ((w.alloc (.cells #[.float .f64 0, .float .f64 0, .float .f64 0, .float .f64 0] 102)).alloc (.cells #[.float .f64 0, .float .f64 0, .float .f64 0, .float .f64 0] 102)).heap.size = w.heap.size + 1 + 1 := by simp
  have s3 : (((w.alloc (.cells #[.float .f64 0, .float .f64 0, .float .f64 0, .float .f64 0] 102)).alloc (.cells #[.float .f64 0, .float .f64 0, .float .f64 0, .float .f64 0] 102)).alloc (.cells #[.float .f64 0, .float .f64 0, .float .f64 0, .float .f64 0] 102)).heap.size = w.heap.size + 1 + 1 + 1 := by simp
  have ab := fun (w : World) => (Below.refl w.heap.size w).alloc (Nat.le_refl _) (.cells #[.float .f64 0, .float .f64 0, .float .f64 0, .float .f64 0] 102)
  have t2 := there_new w #[.float .f64 0, .float .f64 0, .float .f64 0, .float .f64 0] 102 4 rfl
  have t3 := there_new (w.alloc (.cells #[.float .f64 0, .float .f64 0, .float .f64 0, .float .f64 0] 102)) #[.float .f64 0, .float .f64 0, .float .f64 0, .float .f64 0] 102 4 rfl
  have t4 := there_new ((w.alloc (.cells #[.float .f64 0, .float .f64 0, .float .f64 0, .float .f64 0] 102)).alloc (.cells #[.float .f64 0, .float .f64 0, .float .f64 0, .float .f64 0] 102)) #[.float .f64 0, .float .f64 0, .float .f64 0, .float .f64 0] 102 4 rfl
  have t5 := there_new (((w.alloc (.cells #[.float .f64 0, .float .f64 0, .float .f64 0, .float .f64 0] 102)).alloc (.cells #[.float .f64 0, .float .f64 0, .float .f64 0, .float .f64 0] 102)).alloc (.cells #[.float .f64 0, .float .f64 0, .float .f64 0, .float .f64 0] 102)) #[.float .f64 0, .float .f64 0, .float .f64 0, .float .f64 0] 102 4 rfl
  have a4 := range_new ((w.alloc (.cells #[.float .f64 0, .float .f64 0, .float .f64 0, .float .f64 0] 102)).alloc (.cells #[.float .f64 0, .float .f64 0, .float .f64 0, .float .f64 0] 102)) (z4.map (Value.float .f64)) 102
  have a5 := range_new (((w.alloc (.cells #[.float .f64 0, .float .f64 0, .float .f64 0, .float .f64 0] 102)).alloc (.cells #[.float .f64 0, .float .f64 0, .float .f64 0, .float .f64 0] 102)).alloc (.cells #[.float .f64 0, .float .f64 0, .float .f64 0, .float .f64 0] 102)) (z4.map (Value.float .f64)) 102
  rw [s1] at t3
  rw [s2] at t4 a4
  rw [s3] at t5 a5
  exact ⟨World.rangeAt_alloc a4 _, a5, World.there_alloc t4 _, t5, World.there_alloc (World.there_alloc (World.there_alloc t2 _) _) _, World.there_alloc (World.there_alloc t3 _) _, Nat.le_refl _, by omega, by omega, by omega, by simp,
    ((((Below.refl _ _).alloc (Nat.le_refl _) _).alloc (by simp) _).alloc (by simp; omega) _).alloc (by simp; omega) _, rfl, rfl⟩
theorem pt_of (qs : List Nat) (i : Nat) (hl : qs.length = 16) (hi : i < 4) (w : World) : (Instr.index 130 (.agg (qs.map (Value.float .f64)).toArray) (.int .i64 (i : Int))).run Try.prog w = .ok (.agg #[.float .f64 (qs.getD (4 * i) 0), .float .f64 (qs.getD (4 * i + 1) 0), .float .f64 (qs.getD (4 * i + 2) 0), .float .f64 (qs.getD (4 * i + 3) 0)]) w := by
  obtain ⟨a0, a1, a2, a3, a4, a5, a6, a7, a8, a9, a10, a11, a12, a13, a14, a15, rfl⟩ := list16 hl
  rcases (show i = 0 ∨ i = 1 ∨ i = 2 ∨ i = 3 by omega) with rfl | rfl | rfl | rfl <;> kernel_rfl
theorem info126 : (Try.prog.info? 126).map (·.size) = some 4 := by kernel_rfl
theorem ret_rows4 (P : Program) {fn : Func} {p q : Tmp} {ty : TypeId} (h : fn.results = #[.cell p ty, .cell q ty]) {tmps : Array Value} {b c : Nat} (hp : tmps.getD p undef = .pointer (some ⟨b, 0, none⟩)) (hq : tmps.getD q undef = .pointer (some ⟨c, 0, none⟩)) {W : World} (cs ds : List Value) {d : TypeDesc}
    (hb : W.rangeAt b 0 cs) (hc : W.rangeAt c 0 ds) (hu : P.underlying ty = some d) (hd : d.isRow = true) (hi : (P.info? ty).map (·.size) = some cs.length) (hj : (P.info? ty).map (·.size) = some ds.length) :
    (results fn tmps).run P W = .ok (.tuple #[.agg cs.toArray, .agg ds.toArray]) W := by
  have h1 := run_loadVar_mid (P := P) _ _ 0 ty cs _ hb hu hd hi
  have h2 := run_loadVar_mid (P := P) _ _ 0 ty ds _ hc hu hd hj
  have hp' : tmps[p]?.getD undef = .pointer (some ⟨b, 0, none⟩) := by simpa using hp
  have hq' : tmps[q]?.getD undef = .pointer (some ⟨c, 0, none⟩) := by simpa using hq
  simp [results, h, hp', hq', asAddr, h1, h2]
set_option maxRecDepth 100000 in
set_option maxHeartbeats 2000000 in
theorem c41 (w : World) (t : ITM) (ht : t.OK) : Calls Try.prog 41 #[.agg t.cells.toArray] w
    fun e w' => (∃ xs ys : List Nat, e = .returned (.tuple #[.agg (xs.map (Value.float .f64)).toArray, .agg (ys.map (Value.float .f64)).toArray]) ∧ xs.length = 4 ∧ ys.length = 4 ∧ FV 4 xs (cxP t) ∧ FV 4 ys (cyP t)) ∧ Below w.heap.size w w' := by
  obtain ⟨W0, hW0⟩ : ∃ W0, W0 = w.alloc (.cells t.cells.toArray 60) := ⟨_, rfl⟩
  have R0 : W0.rangeAt w.heap.size 0 t.cells := by rw [hW0]; exact range_new w _ 60
  have s0 : W0.heap.size = w.heap.size + 1 := by rw [hW0]; simp
  have B0 := Lib.hid (show Below w.heap.size w W0 by rw [hW0]; exact (Below.refl _ _).alloc (Nat.le_refl _) _)
  have CN0 := CN.start W0
  rw [s0] at CN0
  have RR := Lib.hid (show ∀ w', Below W0.heap.size W0 w' → w'.rangeAt w.heap.size 0 t.cells from fun w' h => range_below R0 h (by omega))
  have HT := Lib.hid ht
  have HW := Lib.hid (And.intro hW0 s0)
  have CN1 := Lib.hid CN0
  clear ht R0 hW0 s0 CN0
  go_enter Try.func41, Try.ntmps41
  go_upto_region 2 with fail
  rw [← HW.out.1]
  generalize (((W0.alloc (.cells #[.float .f64 0, .float .f64 0, .float .f64 0, .float .f64 0] 102)).alloc (.cells #[.float .f64 0, .float .f64 0, .float .f64 0, .float .f64 0] 102)).alloc (.cells #[.float .f64 0, .float .f64 0, .float .f64 0, .float .f64 0] 102)).alloc (.cells #[.float .f64 0, .float .f64 0, .float .f64 0, .float .f64 0] 102) = W at *
  generalize w.heap.size + 1 = r2 at *
  generalize r2 + 1 = r3 at *
  generalize r3 + 1 = g4 at *
  generalize g4 + 1 = g5 at *
  have RW := RR.out W CN1.out.b
  have RM := Lib.hid (ITM.rm RW)
  have RC := Lib.hid (ITM.rrc RW)
  have Z1 := Lib.hid (size80L t.m HT.out.m.1)
  have Z2 := Lib.hid (show (Try.prog.info? 33).map (·.size) = some t.rc.length from info33)
  have CC := Lib.hid (show Calls Try.prog 66 #[.agg (t.m.map (Value.float .f64)).toArray, .agg t.rc.toArray] W _ from k72 HT.out.m (RV.self HT.out.x) (RV.self HT.out.y) (RV.self HT.out.w) (RV.self HT.out.h) W)
  clear RW
  go_wp2_with (first
    | (refine wpList_load_mid rfl 44 (.tmp 8) rfl w.heap.size 6 rfl (t.m.map (Value.float .f64)) _ RM.out Try.underlying44 rfl Z1.out ?_)
    | (refine wpList_load_mid rfl 33 (.tmp 10) rfl w.heap.size 2 rfl t.rc _ RC.out Try.underlying33 rfl Z2.out ?_))
  go_at_call 66
  refine CC.out.mono fun e W2 ⟨⟨qs, he, hqs⟩, hb2⟩ => ?_
  subst he
  have CN2 := Lib.hid (CN1.out.below hb2)
  have HQ := Lib.hid (show qs.length = 16 ∧ ∀ k, k < 16 → RV (qs.getD k 0) (qP t k) from ⟨hqs.1.1, fun k hk => by
    obtain ⟨x, h1, h2⟩ := hqs.1.get hk
    rw [hqs.2 k hk] at h2
    rw [List.getD_eq_getElem?_getD, h1]
    exact h2⟩)
  have F0 := Lib.hid (show FV 0 z4 (cxP t) ∧ FV 0 z4 (cyP t) from ⟨fun j hj => absurd hj (Nat.not_lt_zero _), fun j hj => absurd hj (Nat.not_lt_zero _)⟩)
  clear hqs hb2 CC RM RC Z1 Z2
  have HX := Lib.hid (fun i hi => pt_of qs i HQ.out.1 hi)
  generalize hq : (qs.map (Value.float .f64)).toArray = qa at *
  clear hq
  go_wp2_with fail
  go_loopw [13] (fun ii wx => ∃ (i : Nat) (xs ys : List Nat), ii = .int .i64 (i : Int) ∧ i ≤ 4 ∧ Hid (CN W0 wx r2 r3 g4 g5 xs ys) ∧ Hid (FV i xs (cxP t) ∧ FV i ys (cyP t))) (fun ii _ => 4 - (intOf ii).toNat)
  case atStart => exact ⟨0, z4, z4, by go_num, by omega, CN2, F0⟩
  case round =>
    obtain ⟨i, xs, ys, rfl, hi4, hC, hF⟩ := hrel
    by_cases hlt : i < 4
    · have hx := HX.out i hlt
      have hii : (i : Int) < 4 := by omega
      have di : decide ((i : Int) < 4) = true := decide_eq_true hii
      obtain ⟨⟨ux, px⟩, ⟨uy, py⟩, ⟨uu, pu⟩⟩ := And.intro (HQ.out.2 (4 * i) (by omega)) (And.intro (HQ.out.2 (4 * i + 1) (by omega)) (HQ.out.2 (4 * i + 3) (by omega)))
      have HU := Lib.hid (And.intro ux (And.intro px (And.intro uy (And.intro py (And.intro uu pu)))))
      clear ux px uy py uu pu
      generalize qs.getD (4 * i) 0 = x at *
      generalize qs.getD (4 * i + 1) 0 = y at *
      generalize qs.getD (4 * i + 2) 0 = z at *
      generalize qs.getD (4 * i + 3) 0 = u at *
      have TB := Lib.hid (there_new wr #[.float .f64 0, .float .f64 0, .float .f64 0, .float .f64 0] 126 4 rfl)
      have NB := Lib.hid (new_row wr #[.float .f64 0, .float .f64 0, .float .f64 0, .float .f64 0] 126 [.float .f64 x, .float .f64 y, .float .f64 z, .float .f64 u] rfl)
      have O4 := Lib.hid (show (#[.float .f64 x, .float .f64 y, .float .f64 z, .float .f64 u] : Array Value).all (·.oneCell') = true from oneF [x, y, z, u])
      go_upto_region 5 with (refine wpList_store_mid rfl 126 (.tmp 7) (.tmp 16) rfl wr.heap.size 0 #[.float .f64 x, .float .f64 y, .float .f64 z, .float .f64 u] rfl rfl TB.out info126 O4.out ?_)
      obtain ⟨B5, r5, -, z5⟩ := NB.out
      have C5 := hC.out.below B5
      have hl := hC.out.l
      clear NB TB O4
      generalize (wr.alloc (.cells #[.float .f64 0, .float .f64 0, .float .f64 0, .float .f64 0] 126)).setCells wr.heap.size 0 [.float .f64 x, .float .f64 y, .float .f64 z, .float .f64 u] = w5 at *
      generalize wr.heap.size = pz at *
      have e45 := C5.l5
      refine creg5 w5 g4 g5 pz i x y z u xs ys _ _ _ _ _ _ _ _ _ _ _ _ _ _ _ _ _ _ _ _ _ _ _ _ _ _ _ _ _ _ HU.out.1 HU.out.2.2.1 HU.out.2.2.2.2.1 r5 hlt C5.a4 C5.a5 C5.x4 C5.y4 C5.t4 C5.t5 (by omega) (by omega) (by omega) (by have := C5.l; omega) C5.l (fun v17 v18 v19 v20 v21 v22 v23 v24 v25 v26 v27 v28 v29 v30 r s w6 hr hs hk a4 a5 t4 t5 => ?_)
      have C6 := Lib.hid (C5.step hk a4 a5 t4 t5 (by rw [List.length_set]; exact C5.x4) (by rw [List.length_set]; exact C5.y4))
      have F6 := Lib.hid (show FV (i + 1) (xs.set i r) (cxP t) ∧ FV (i + 1) (ys.set i s) (cyP t) from ⟨hF.out.1.set (by rw [C5.x4]; exact hlt) (by unfold cxP; rw [← HU.out.2.1, ← HU.out.2.2.2.2.2]; exact hr), hF.out.2.set (by rw [C5.y4]; exact hlt) (by unfold cyP; rw [← HU.out.2.2.2.1, ← HU.out.2.2.2.2.2]; exact hs)⟩)
      clear hr hs hk a4 a5 t4 t5 C5 r5 B5 e45 hl z5 hx
      go_wp2_with fail
      go_roundw
      case rel => exact ⟨i + 1, _, _, by go_num, by omega, C6, F6⟩
      case measure => simp [intOf]; omega
    · have e4 : i = 4 := by omega
      subst e4
      go_upto_region 7 with fail
      have C := hC.out
      have q2 := C.l; have q3 := C.l5; have q4 := C.l4; have q5 := C.l3; have q6 := C.l2
      refine creg7 wr g4 g5 r2 r3 xs ys _ _ _ _ _ _ _ _ _ _ _ _ _ _ _ _ _ _ _ _ _ _ _ _ _ _ _ _ _ _ C.a4 C.a5 C.x4 C.y4 C.t2 C.t3 (by omega) C.l (by omega) (by omega) (by omega) (by omega) (by omega) (fun v32 v33 w7 hk a2 a3 => ?_)
      have FB := Lib.hid (show Below w.heap.size w w7 from by
        have h1 := C.b.trans ((hk.mono C.b.size (fun _ _ h => h)).below _ (Nat.le_refl _) (fun k hk e => by omega))
        exact B0.out.trans (h1.mono B0.out.size))
      have A2 := Lib.hid a2
      have A3 := Lib.hid a3
      have XL := Lib.hid (And.intro C.x4 C.y4)
      clear hk a2 a3 C q2 q3 q4 q5 q6 hC
      go_wp2
      refine bodyPost_ret (v := .tuple #[.agg _, .agg _]) (ret_rows4 Try.prog Try.results41 rfl rfl _ _ A2.out A3.out Try.underlying102 rfl (size102 XL.out.1) (size102 XL.out.2)) rfl ?_
      exact ⟨⟨xs, ys, rfl, XL.out.1, XL.out.2, hF.out.1, hF.out.2⟩, FB.out⟩
end Go.Proofs.Ytedkbjimofiphaa
