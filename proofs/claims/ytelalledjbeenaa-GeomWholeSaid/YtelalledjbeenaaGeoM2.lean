/- The walk of GeomMatrices: printed by geo24.py. -/
import Derived.Test.YtelalledjbeenaaInvD
import Derived.Test.YtelalledjbeenaaGeoT
namespace Go.Proofs.Ytelalledjbeenaa
open Go.RowKit Fl

def GK (a b : List Nat) (p0 p1 p2 : Nat) (P0 P1 P2 P3 : Int) (f : FuncId) (_ : Array Value) (v : Value) : Prop :=
  match f with
  | 87 | 88 => v = .agg (idL.map (Value.float .f64)).toArray
  | 89 | 90 => v = .agg ((moveL p0 p1 p2).map (Value.float .f64)).toArray
  | 91 | 92 => v = .agg ((scaleL p0 p1 p2).map (Value.float .f64)).toArray
  | 95 | 96 => v = .agg ((skewL p0 p1).map (Value.float .f64)).toArray
  | 93 | 94 => ∃ c s : Nat, v = .agg ((turnL c s).map (Value.float .f64)).toArray ∧ RV c (opP .quo P0 (hypP P0 P1)) ∧ RV s (opP .quo P1 (hypP P0 P1))
  | 99 | 100 => ∃ os : List Nat, v = .agg (os.map (Value.float .f64)).toArray ∧ MU os ∧ ∀ j, j < 16 → mp os j = timesP (mp a) (mp b) j
  | 101 | 102 => ∃ r0 r1 r2 r3 : Nat, v = .agg #[.float .f64 r0, .float .f64 r1, .float .f64 r2, .float .f64 r3] ∧ RV r0 (rowP (mp a) 0 P0 P1 P2 P3) ∧ RV r1 (rowP (mp a) 1 P0 P1 P2 P3) ∧ RV r2 (rowP (mp a) 2 P0 P1 P2 P3) ∧ RV r3 (rowP (mp a) 3 P0 P1 P2 P3)
  | 103 | 104 => ∃ r : Nat, v = .float .f64 r ∧ RV r (detP (mp a))
  | 105 | 106 => v = .bool (flatP (mp a))
  | _ => v = .bool true
theorem idL_MU : MU idL := ⟨rfl, fun u hu => by
  have h1 : u = 0 ∨ u = 4607182418800017408 := by
    simp [idL, idK, List.range, List.range.loop] at hu
    omega
  rcases h1 with rfl | rfl <;> (unfold U; decide)⟩
theorem turn_places {c s c' s' : Nat} {C S : Int} (hc : RV c C) (hs : RV s S) (hc' : RV c' C) (hs' : RV s' S) : ∀ j, j < 16 → mp (turnL c s) j = mp (turnL c' s') j := by
  have e1 : pl c = pl c' := hc.2.trans hc'.2.symm
  have e2 : pl s = pl s' := hs.2.trans hs'.2.symm
  have e3 : pl (ng s) = pl (ng s') := by rw [pl_ng hs.1, pl_ng hs'.1, e2]
  intro j hj
  rcases (by omega : j = 0 ∨ j = 1 ∨ j = 2 ∨ j = 3 ∨ j = 4 ∨ j = 5 ∨ j = 6 ∨ j = 7 ∨ j = 8 ∨ j = 9 ∨ j = 10 ∨ j = 11 ∨ j = 12 ∨ j = 13 ∨ j = 14 ∨ j = 15) with rfl | rfl | rfl | rfl | rfl | rfl | rfl | rfl | rfl | rfl | rfl | rfl | rfl | rfl | rfl | rfl
  all_goals first | rfl | exact e1 | exact e2 | exact e3
set_option maxRecDepth 100000 in
set_option maxHeartbeats 2000000 in
theorem walkGeomMatrices {a b : List Nat} {p0 p1 p2 p3 : Nat} (ha : MU a) (hb : MU b) (hp0 : U p0) (hp1 : U p1) (hp2 : U p2) (hp3 : U p3) (w : World) :
    Calls Try.prog 17 #[.agg (a.map (Value.float .f64)).toArray, .agg (b.map (Value.float .f64)).toArray, .agg #[.float .f64 p0, .float .f64 p1, .float .f64 p2, .float .f64 p3]] w fun e w' => e = .returned (.bool true) ∧ Below w.heap.size w w' := by
  obtain ⟨P0, qp0⟩ : ∃ P, RV p0 P := ⟨_, RV.self hp0⟩
  obtain ⟨P1, qp1⟩ : ∃ P, RV p1 P := ⟨_, RV.self hp1⟩
  obtain ⟨P2, qp2⟩ : ∃ P, RV p2 P := ⟨_, RV.self hp2⟩
  obtain ⟨P3, qp3⟩ : ∃ P, RV p3 P := ⟨_, RV.self hp3⟩
  have HP := Lib.hid (And.intro qp0 (And.intro qp1 (And.intro qp2 qp3)))
  have HA := Lib.hid ha
  have HB := Lib.hid hb
  have MUI := Lib.hid idL_MU
  clear ha hb hp0 hp1 hp2 hp3 qp0 qp1 qp2 qp3
  go_enter Try.func17, Try.ntmps17
  go_wp2_with fail
  refine (k46 _).mono ?_
  rintro e w1 ⟨rfl, h1⟩
  have W1 := Lib.hid ((tri_entry w (a.map (Value.float .f64)) (b.map (Value.float .f64)) [.float .f64 p0, .float .f64 p1, .float .f64 p2, .float .f64 p3] 80 80 60).below h1)
  clear h1
  go_upto_region 2 with fail
  refine wp_gen (fun wx => Hid (Tri wx w (a.map (Value.float .f64)) (b.map (Value.float .f64)) [.float .f64 p0, .float .f64 p1, .float .f64 p2, .float .f64 p3])) W1 ?_
  intro wc hW
  clear W1
  have ra : ∀ w', Below wc.heap.size wc w' → w'.rangeAt w.heap.size 0 (a.map (Value.float .f64)) := fun w' hw => (hW.out.a.below hw).r
  have rb : ∀ w', Below wc.heap.size wc w' → w'.rangeAt (w.heap.size + 1) 0 (b.map (Value.float .f64)) := fun w' hw => (hW.out.b.below hw).r
  have rp : ∀ w', Below wc.heap.size wc w' → w'.rangeAt (w.heap.size + 1 + 1) 0 [.float .f64 p0, .float .f64 p1, .float .f64 p2, .float .f64 p3] := fun w' hw => (hW.out.c.below hw).r
  refine wp_region_rel 64 (fun w' => Below wc.heap.size wc w') (GK a b p0 p1 p2 P0 P1 P2 P3) (by kernel_rfl) (by kernel_rfl) ((Below.refl _ _).drew) ?_
  simp only [List.take_succ_cons, List.take_zero, List.drop_succ_cons, List.drop_zero]
  refine rel_call (f := 87) (args := #[]) rfl (fun w' hw => by go_simp) (fun w' hw => (k87 w').mono fun e w'' ⟨he, hb⟩ => ⟨_, he, rfl, below_trans hw hb⟩) (fun v hv => ?_)
  obtain rfl := hv
  simp only [Act.put, List.setIfInBounds_toArray, List.set_cons_succ, List.set_cons_zero]
  refine rel_call (f := 88) (args := #[]) rfl (fun w' hw => by go_simp) (fun w' hw => (k88 w').mono fun e w'' ⟨he, hb⟩ => ⟨_, he, rfl, below_trans hw hb⟩) (fun v hv => ?_)
  obtain rfl := hv
  simp only [Act.put, List.setIfInBounds_toArray, List.set_cons_succ, List.set_cons_zero]
  refine rel_call (f := 81) (args := #[.agg (idL.map (Value.float .f64)).toArray, .agg (idL.map (Value.float .f64)).toArray]) rfl (fun w' hw => by go_simp) (fun w' hw => (k81 MUI.out MUI.out (fun _ _ => rfl) w').mono fun e w'' ⟨he, hb⟩ => ⟨_, he, rfl, below_trans hw hb⟩) (fun v hv => ?_)
  obtain rfl : v = .bool true := hv
  simp only [Act.put, List.setIfInBounds_toArray, List.set_cons_succ, List.set_cons_zero]
  refine rel_move (v := .bool true) rfl rfl ?_
  simp only [Act.put, List.setIfInBounds_toArray, List.set_cons_succ, List.set_cons_zero]
  refine rel_val (v := .pointer (some ⟨w.heap.size + 1 + 1, 0, none⟩)) rfl (fun w' hw => by go_simp) ?_
  simp only [Act.put, List.setIfInBounds_toArray, List.set_cons_succ, List.set_cons_zero]
  refine rel_loadF (w.heap.size + 1 + 1) 0 p0 rfl rfl (fun w' hw => rp w' hw 0 _ rfl) ?_
  simp only [Act.put, List.setIfInBounds_toArray, List.set_cons_succ, List.set_cons_zero]
  refine rel_val (v := .pointer (some ⟨w.heap.size + 1 + 1, 1, none⟩)) rfl (fun w' hw => by go_simp) ?_
  simp only [Act.put, List.setIfInBounds_toArray, List.set_cons_succ, List.set_cons_zero]
  refine rel_loadF (w.heap.size + 1 + 1) 1 p1 rfl rfl (fun w' hw => rp w' hw 1 _ rfl) ?_
  simp only [Act.put, List.setIfInBounds_toArray, List.set_cons_succ, List.set_cons_zero]
  refine rel_val (v := .pointer (some ⟨w.heap.size + 1 + 1, 2, none⟩)) rfl (fun w' hw => by go_simp) ?_
  simp only [Act.put, List.setIfInBounds_toArray, List.set_cons_succ, List.set_cons_zero]
  refine rel_loadF (w.heap.size + 1 + 1) 2 p2 rfl rfl (fun w' hw => rp w' hw 2 _ rfl) ?_
  simp only [Act.put, List.setIfInBounds_toArray, List.set_cons_succ, List.set_cons_zero]
  refine rel_call (f := 89) (args := #[.float .f64 p0, .float .f64 p1, .float .f64 p2]) rfl (fun w' hw => by go_simp) (fun w' hw => (k89 p0 p1 p2 w').mono fun e w'' ⟨he, hb⟩ => ⟨_, he, rfl, below_trans hw hb⟩) (fun v hv => ?_)
  obtain rfl := hv
  simp only [Act.put, List.setIfInBounds_toArray, List.set_cons_succ, List.set_cons_zero]
  refine rel_val (v := .pointer (some ⟨w.heap.size + 1 + 1, 0, none⟩)) rfl (fun w' hw => by go_simp) ?_
  simp only [Act.put, List.setIfInBounds_toArray, List.set_cons_succ, List.set_cons_zero]
  refine rel_loadF (w.heap.size + 1 + 1) 0 p0 rfl rfl (fun w' hw => rp w' hw 0 _ rfl) ?_
  simp only [Act.put, List.setIfInBounds_toArray, List.set_cons_succ, List.set_cons_zero]
  refine rel_val (v := .pointer (some ⟨w.heap.size + 1 + 1, 1, none⟩)) rfl (fun w' hw => by go_simp) ?_
  simp only [Act.put, List.setIfInBounds_toArray, List.set_cons_succ, List.set_cons_zero]
  refine rel_loadF (w.heap.size + 1 + 1) 1 p1 rfl rfl (fun w' hw => rp w' hw 1 _ rfl) ?_
  simp only [Act.put, List.setIfInBounds_toArray, List.set_cons_succ, List.set_cons_zero]
  refine rel_val (v := .pointer (some ⟨w.heap.size + 1 + 1, 2, none⟩)) rfl (fun w' hw => by go_simp) ?_
  simp only [Act.put, List.setIfInBounds_toArray, List.set_cons_succ, List.set_cons_zero]
  refine rel_loadF (w.heap.size + 1 + 1) 2 p2 rfl rfl (fun w' hw => rp w' hw 2 _ rfl) ?_
  simp only [Act.put, List.setIfInBounds_toArray, List.set_cons_succ, List.set_cons_zero]
  refine rel_call (f := 90) (args := #[.float .f64 p0, .float .f64 p1, .float .f64 p2]) rfl (fun w' hw => by go_simp) (fun w' hw => (k90 p0 p1 p2 w').mono fun e w'' ⟨he, hb⟩ => ⟨_, he, rfl, below_trans hw hb⟩) (fun v hv => ?_)
  obtain rfl := hv
  simp only [Act.put, List.setIfInBounds_toArray, List.set_cons_succ, List.set_cons_zero]
  refine rel_call (f := 81) (args := #[.agg ((moveL p0 p1 p2).map (Value.float .f64)).toArray, .agg ((moveL p0 p1 p2).map (Value.float .f64)).toArray]) rfl (fun w' hw => by go_simp) (fun w' hw => (k81 (moveL_MU HP.out.1.1 HP.out.2.1.1 HP.out.2.2.1.1) (moveL_MU HP.out.1.1 HP.out.2.1.1 HP.out.2.2.1.1) (fun _ _ => rfl) w').mono fun e w'' ⟨he, hb⟩ => ⟨_, he, rfl, below_trans hw hb⟩) (fun v hv => ?_)
  obtain rfl : v = .bool true := hv
  simp only [Act.put, List.setIfInBounds_toArray, List.set_cons_succ, List.set_cons_zero]
  refine rel_val (v := .bool true) rfl (fun w' hw => by go_simp) ?_
  simp only [Act.put, List.setIfInBounds_toArray, List.set_cons_succ, List.set_cons_zero]
  refine rel_move (v := .bool true) rfl rfl ?_
  simp only [Act.put, List.setIfInBounds_toArray, List.set_cons_succ, List.set_cons_zero]
  refine rel_val (v := .pointer (some ⟨w.heap.size + 1 + 1, 0, none⟩)) rfl (fun w' hw => by go_simp) ?_
  simp only [Act.put, List.setIfInBounds_toArray, List.set_cons_succ, List.set_cons_zero]
  refine rel_loadF (w.heap.size + 1 + 1) 0 p0 rfl rfl (fun w' hw => rp w' hw 0 _ rfl) ?_
  simp only [Act.put, List.setIfInBounds_toArray, List.set_cons_succ, List.set_cons_zero]
  refine rel_val (v := .pointer (some ⟨w.heap.size + 1 + 1, 1, none⟩)) rfl (fun w' hw => by go_simp) ?_
  simp only [Act.put, List.setIfInBounds_toArray, List.set_cons_succ, List.set_cons_zero]
  refine rel_loadF (w.heap.size + 1 + 1) 1 p1 rfl rfl (fun w' hw => rp w' hw 1 _ rfl) ?_
  simp only [Act.put, List.setIfInBounds_toArray, List.set_cons_succ, List.set_cons_zero]
  refine rel_val (v := .pointer (some ⟨w.heap.size + 1 + 1, 2, none⟩)) rfl (fun w' hw => by go_simp) ?_
  simp only [Act.put, List.setIfInBounds_toArray, List.set_cons_succ, List.set_cons_zero]
  refine rel_loadF (w.heap.size + 1 + 1) 2 p2 rfl rfl (fun w' hw => rp w' hw 2 _ rfl) ?_
  simp only [Act.put, List.setIfInBounds_toArray, List.set_cons_succ, List.set_cons_zero]
  refine rel_call (f := 91) (args := #[.float .f64 p0, .float .f64 p1, .float .f64 p2]) rfl (fun w' hw => by go_simp) (fun w' hw => (k91 p0 p1 p2 w').mono fun e w'' ⟨he, hb⟩ => ⟨_, he, rfl, below_trans hw hb⟩) (fun v hv => ?_)
  obtain rfl := hv
  simp only [Act.put, List.setIfInBounds_toArray, List.set_cons_succ, List.set_cons_zero]
  refine rel_val (v := .pointer (some ⟨w.heap.size + 1 + 1, 0, none⟩)) rfl (fun w' hw => by go_simp) ?_
  simp only [Act.put, List.setIfInBounds_toArray, List.set_cons_succ, List.set_cons_zero]
  refine rel_loadF (w.heap.size + 1 + 1) 0 p0 rfl rfl (fun w' hw => rp w' hw 0 _ rfl) ?_
  simp only [Act.put, List.setIfInBounds_toArray, List.set_cons_succ, List.set_cons_zero]
  refine rel_val (v := .pointer (some ⟨w.heap.size + 1 + 1, 1, none⟩)) rfl (fun w' hw => by go_simp) ?_
  simp only [Act.put, List.setIfInBounds_toArray, List.set_cons_succ, List.set_cons_zero]
  refine rel_loadF (w.heap.size + 1 + 1) 1 p1 rfl rfl (fun w' hw => rp w' hw 1 _ rfl) ?_
  simp only [Act.put, List.setIfInBounds_toArray, List.set_cons_succ, List.set_cons_zero]
  refine rel_val (v := .pointer (some ⟨w.heap.size + 1 + 1, 2, none⟩)) rfl (fun w' hw => by go_simp) ?_
  simp only [Act.put, List.setIfInBounds_toArray, List.set_cons_succ, List.set_cons_zero]
  refine rel_loadF (w.heap.size + 1 + 1) 2 p2 rfl rfl (fun w' hw => rp w' hw 2 _ rfl) ?_
  simp only [Act.put, List.setIfInBounds_toArray, List.set_cons_succ, List.set_cons_zero]
  refine rel_call (f := 92) (args := #[.float .f64 p0, .float .f64 p1, .float .f64 p2]) rfl (fun w' hw => by go_simp) (fun w' hw => (k92 p0 p1 p2 w').mono fun e w'' ⟨he, hb⟩ => ⟨_, he, rfl, below_trans hw hb⟩) (fun v hv => ?_)
  obtain rfl := hv
  simp only [Act.put, List.setIfInBounds_toArray, List.set_cons_succ, List.set_cons_zero]
  refine rel_call (f := 81) (args := #[.agg ((scaleL p0 p1 p2).map (Value.float .f64)).toArray, .agg ((scaleL p0 p1 p2).map (Value.float .f64)).toArray]) rfl (fun w' hw => by go_simp) (fun w' hw => (k81 (scaleL_MU HP.out.1.1 HP.out.2.1.1 HP.out.2.2.1.1) (scaleL_MU HP.out.1.1 HP.out.2.1.1 HP.out.2.2.1.1) (fun _ _ => rfl) w').mono fun e w'' ⟨he, hb⟩ => ⟨_, he, rfl, below_trans hw hb⟩) (fun v hv => ?_)
  obtain rfl : v = .bool true := hv
  simp only [Act.put, List.setIfInBounds_toArray, List.set_cons_succ, List.set_cons_zero]
  refine rel_val (v := .bool true) rfl (fun w' hw => by go_simp) ?_
  simp only [Act.put, List.setIfInBounds_toArray, List.set_cons_succ, List.set_cons_zero]
  refine rel_move (v := .bool true) rfl rfl ?_
  simp only [Act.put, List.setIfInBounds_toArray, List.set_cons_succ, List.set_cons_zero]
  refine rel_val (v := .pointer (some ⟨w.heap.size + 1 + 1, 0, none⟩)) rfl (fun w' hw => by go_simp) ?_
  simp only [Act.put, List.setIfInBounds_toArray, List.set_cons_succ, List.set_cons_zero]
  refine rel_loadF (w.heap.size + 1 + 1) 0 p0 rfl rfl (fun w' hw => rp w' hw 0 _ rfl) ?_
  simp only [Act.put, List.setIfInBounds_toArray, List.set_cons_succ, List.set_cons_zero]
  refine rel_val (v := .pointer (some ⟨w.heap.size + 1 + 1, 1, none⟩)) rfl (fun w' hw => by go_simp) ?_
  simp only [Act.put, List.setIfInBounds_toArray, List.set_cons_succ, List.set_cons_zero]
  refine rel_loadF (w.heap.size + 1 + 1) 1 p1 rfl rfl (fun w' hw => rp w' hw 1 _ rfl) ?_
  simp only [Act.put, List.setIfInBounds_toArray, List.set_cons_succ, List.set_cons_zero]
  refine rel_call (f := 93) (args := #[.float .f64 p0, .float .f64 p1]) rfl (fun w' hw => by go_simp) (fun w' hw => (k93 HP.out.1 HP.out.2.1 w').mono fun e w'' ⟨⟨c, t, he, h1, h2⟩, hb⟩ => ⟨_, he, ⟨c, t, rfl, h1, h2⟩, below_trans hw hb⟩) (fun v hv => ?_)
  obtain ⟨c1, t1, rfl, hc1, ht1⟩ := hv
  simp only [Act.put, List.setIfInBounds_toArray, List.set_cons_succ, List.set_cons_zero]
  refine rel_val (v := .pointer (some ⟨w.heap.size + 1 + 1, 0, none⟩)) rfl (fun w' hw => by go_simp) ?_
  simp only [Act.put, List.setIfInBounds_toArray, List.set_cons_succ, List.set_cons_zero]
  refine rel_loadF (w.heap.size + 1 + 1) 0 p0 rfl rfl (fun w' hw => rp w' hw 0 _ rfl) ?_
  simp only [Act.put, List.setIfInBounds_toArray, List.set_cons_succ, List.set_cons_zero]
  refine rel_val (v := .pointer (some ⟨w.heap.size + 1 + 1, 1, none⟩)) rfl (fun w' hw => by go_simp) ?_
  simp only [Act.put, List.setIfInBounds_toArray, List.set_cons_succ, List.set_cons_zero]
  refine rel_loadF (w.heap.size + 1 + 1) 1 p1 rfl rfl (fun w' hw => rp w' hw 1 _ rfl) ?_
  simp only [Act.put, List.setIfInBounds_toArray, List.set_cons_succ, List.set_cons_zero]
  refine rel_call (f := 94) (args := #[.float .f64 p0, .float .f64 p1]) rfl (fun w' hw => by go_simp) (fun w' hw => (k94 HP.out.1 HP.out.2.1 w').mono fun e w'' ⟨⟨c, t, he, h1, h2⟩, hb⟩ => ⟨_, he, ⟨c, t, rfl, h1, h2⟩, below_trans hw hb⟩) (fun v hv => ?_)
  obtain ⟨c2, t2, rfl, hc2, ht2⟩ := hv
  simp only [Act.put, List.setIfInBounds_toArray, List.set_cons_succ, List.set_cons_zero]
  refine rel_call (f := 81) (args := #[.agg ((turnL c1 t1).map (Value.float .f64)).toArray, .agg ((turnL c2 t2).map (Value.float .f64)).toArray]) rfl (fun w' hw => by go_simp) (fun w' hw => (k81 (turnL_MU hc1.1 ht1.1) (turnL_MU hc2.1 ht2.1) (turn_places hc1 ht1 hc2 ht2) w').mono fun e w'' ⟨he, hb⟩ => ⟨_, he, rfl, below_trans hw hb⟩) (fun v hv => ?_)
  obtain rfl : v = .bool true := hv
  simp only [Act.put, List.setIfInBounds_toArray, List.set_cons_succ, List.set_cons_zero]
  refine rel_val (v := .bool true) rfl (fun w' hw => by go_simp) ?_
  simp only [Act.put, List.setIfInBounds_toArray, List.set_cons_succ, List.set_cons_zero]
  refine rel_move (v := .bool true) rfl rfl ?_
  simp only [Act.put, List.setIfInBounds_toArray, List.set_cons_succ, List.set_cons_zero]
  refine rel_val (v := .pointer (some ⟨w.heap.size + 1 + 1, 0, none⟩)) rfl (fun w' hw => by go_simp) ?_
  simp only [Act.put, List.setIfInBounds_toArray, List.set_cons_succ, List.set_cons_zero]
  refine rel_loadF (w.heap.size + 1 + 1) 0 p0 rfl rfl (fun w' hw => rp w' hw 0 _ rfl) ?_
  simp only [Act.put, List.setIfInBounds_toArray, List.set_cons_succ, List.set_cons_zero]
  refine rel_val (v := .pointer (some ⟨w.heap.size + 1 + 1, 1, none⟩)) rfl (fun w' hw => by go_simp) ?_
  simp only [Act.put, List.setIfInBounds_toArray, List.set_cons_succ, List.set_cons_zero]
  refine rel_loadF (w.heap.size + 1 + 1) 1 p1 rfl rfl (fun w' hw => rp w' hw 1 _ rfl) ?_
  simp only [Act.put, List.setIfInBounds_toArray, List.set_cons_succ, List.set_cons_zero]
  refine rel_call (f := 95) (args := #[.float .f64 p0, .float .f64 p1]) rfl (fun w' hw => by go_simp) (fun w' hw => (k95 p0 p1 w').mono fun e w'' ⟨he, hb⟩ => ⟨_, he, rfl, below_trans hw hb⟩) (fun v hv => ?_)
  obtain rfl := hv
  simp only [Act.put, List.setIfInBounds_toArray, List.set_cons_succ, List.set_cons_zero]
  refine rel_val (v := .pointer (some ⟨w.heap.size + 1 + 1, 0, none⟩)) rfl (fun w' hw => by go_simp) ?_
  simp only [Act.put, List.setIfInBounds_toArray, List.set_cons_succ, List.set_cons_zero]
  refine rel_loadF (w.heap.size + 1 + 1) 0 p0 rfl rfl (fun w' hw => rp w' hw 0 _ rfl) ?_
  simp only [Act.put, List.setIfInBounds_toArray, List.set_cons_succ, List.set_cons_zero]
  refine rel_val (v := .pointer (some ⟨w.heap.size + 1 + 1, 1, none⟩)) rfl (fun w' hw => by go_simp) ?_
  simp only [Act.put, List.setIfInBounds_toArray, List.set_cons_succ, List.set_cons_zero]
  refine rel_loadF (w.heap.size + 1 + 1) 1 p1 rfl rfl (fun w' hw => rp w' hw 1 _ rfl) ?_
  simp only [Act.put, List.setIfInBounds_toArray, List.set_cons_succ, List.set_cons_zero]
  refine rel_call (f := 96) (args := #[.float .f64 p0, .float .f64 p1]) rfl (fun w' hw => by go_simp) (fun w' hw => (k96 p0 p1 w').mono fun e w'' ⟨he, hb⟩ => ⟨_, he, rfl, below_trans hw hb⟩) (fun v hv => ?_)
  obtain rfl := hv
  simp only [Act.put, List.setIfInBounds_toArray, List.set_cons_succ, List.set_cons_zero]
  refine rel_call (f := 81) (args := #[.agg ((skewL p0 p1).map (Value.float .f64)).toArray, .agg ((skewL p0 p1).map (Value.float .f64)).toArray]) rfl (fun w' hw => by go_simp) (fun w' hw => (k81 (skewL_MU HP.out.1.1 HP.out.2.1.1) (skewL_MU HP.out.1.1 HP.out.2.1.1) (fun _ _ => rfl) w').mono fun e w'' ⟨he, hb⟩ => ⟨_, he, rfl, below_trans hw hb⟩) (fun v hv => ?_)
  obtain rfl : v = .bool true := hv
  simp only [Act.put, List.setIfInBounds_toArray, List.set_cons_succ, List.set_cons_zero]
  refine rel_val (v := .bool true) rfl (fun w' hw => by go_simp) ?_
  simp only [Act.put, List.setIfInBounds_toArray, List.set_cons_succ, List.set_cons_zero]
  refine rel_assign (v := .bool true) rfl rfl ?_
  simp only [Act.put, List.setIfInBounds_toArray, List.set_cons_succ, List.set_cons_zero]
  refine rel_nil ?_
  intro w3 hB3
  have W3 := Lib.hid (hW.out.below hB3)
  clear hB3 hW ra rb rp
  go_upto_region 3 with fail
  refine wp_gen (fun wx => Hid (Tri wx w (a.map (Value.float .f64)) (b.map (Value.float .f64)) [.float .f64 p0, .float .f64 p1, .float .f64 p2, .float .f64 p3])) W3 ?_
  intro wd hW
  clear W3
  have RA := Lib.hid hW.out.a.r
  have E0 := Lib.hid (size80L a HA.out.1)
  go_wp2_with (refine wpList_load_mid rfl 80 (.tmp 3) rfl w.heap.size 0 rfl (a.map (Value.float .f64)) _ RA.out Try.underlying80 rfl E0.out ?_)
  refine (k97 HA.out _).mono ?_
  rintro e w4 ⟨⟨os, rfl, hu⟩, h4⟩
  have HO := Lib.hid hu
  have hl := hu.1.1
  have W4 := Lib.hid (And.intro ((hW.out.below h4).below (stored16 w4 (os.map (Value.float .f64)))) (kp_st16 w4 os hl))
  have N4 := Lib.hid (thereA (there_new w4 Z16 80 16 rfl) hl)
  have E4 := Lib.hid (size80A os hl)
  have O4 := Lib.hid (one16 os)
  clear hu hl h4 hW RA E0
  go_upto_region 4 with (refine wpList_store_mid rfl 80 (.tmp 9) (.tmp 80) rfl w4.heap.size 0 (os.map (Value.float .f64)).toArray rfl rfl N4.out E4.out O4.out ?_)
  refine wp_gen (fun wx => Hid (Tri wx w (a.map (Value.float .f64)) (b.map (Value.float .f64)) [.float .f64 p0, .float .f64 p1, .float .f64 p2, .float .f64 p3] ∧ Kp wx w4.heap.size (os.map (Value.float .f64)))) W4 ?_
  intro we hW
  clear W4 N4 E4 O4
  generalize w4.heap.size = g9 at *
  have RA := Lib.hid hW.out.1.a.r
  have E0 := Lib.hid (size80L a HA.out.1)
  go_wp2_with (refine wpList_load_mid rfl 80 (.tmp 3) rfl w.heap.size 0 rfl (a.map (Value.float .f64)) _ RA.out Try.underlying80 rfl E0.out ?_)
  refine (k98 HA.out _).mono ?_
  rintro e w4 ⟨⟨us, rfl, hu⟩, h4⟩
  have HU := Lib.hid hu
  have hl := hu.1.1
  have W4 := Lib.hid (And.intro ((hW.out.1.below h4).below (stored16 w4 (us.map (Value.float .f64)))) (And.intro ((hW.out.2.below h4).below (stored16 w4 (us.map (Value.float .f64)))) (kp_st16 w4 us hl)))
  have N4 := Lib.hid (thereA (there_new w4 Z16 80 16 rfl) hl)
  have E4 := Lib.hid (size80A us hl)
  have O4 := Lib.hid (one16 us)
  clear hu hl h4 hW RA E0
  go_upto_region 5 with (refine wpList_store_mid rfl 80 (.tmp 11) (.tmp 85) rfl w4.heap.size 0 (us.map (Value.float .f64)).toArray rfl rfl N4.out E4.out O4.out ?_)
  refine wp_gen (fun wx => Hid (Tri wx w (a.map (Value.float .f64)) (b.map (Value.float .f64)) [.float .f64 p0, .float .f64 p1, .float .f64 p2, .float .f64 p3] ∧ Kp wx g9 (os.map (Value.float .f64)) ∧ Kp wx w4.heap.size (us.map (Value.float .f64)))) W4 ?_
  intro we hW
  clear W4 N4 E4 O4
  generalize w4.heap.size = g11 at *
  have ra : ∀ w', Below we.heap.size we w' → w'.rangeAt w.heap.size 0 (a.map (Value.float .f64)) := fun w' hw => (hW.out.1.a.below hw).r
  have rb : ∀ w', Below we.heap.size we w' → w'.rangeAt (w.heap.size + 1) 0 (b.map (Value.float .f64)) := fun w' hw => (hW.out.1.b.below hw).r
  have rp : ∀ w', Below we.heap.size we w' → w'.rangeAt (w.heap.size + 1 + 1) 0 [.float .f64 p0, .float .f64 p1, .float .f64 p2, .float .f64 p3] := fun w' hw => (hW.out.1.c.below hw).r
  have r9 : ∀ w', Below we.heap.size we w' → w'.rangeAt g9 0 (os.map (Value.float .f64)) := fun w' hw => (hW.out.2.1.below hw).r
  have r11 : ∀ w', Below we.heap.size we w' → w'.rangeAt g11 0 (us.map (Value.float .f64)) := fun w' hw => (hW.out.2.2.below hw).r
  refine wp_region_rel 47 (fun w' => Below we.heap.size we w') (GK a b p0 p1 p2 P0 P1 P2 P3) (by kernel_rfl) (by kernel_rfl) ((Below.refl _ _).drew) ?_
  simp only [List.take_succ_cons, List.take_zero, List.drop_succ_cons, List.drop_zero]
  refine rel_move (v := .bool true) rfl rfl ?_
  simp only [Act.put, List.setIfInBounds_toArray, List.set_cons_succ, List.set_cons_zero]
  refine rel_move (v := .bool true) rfl rfl ?_
  simp only [Act.put, List.setIfInBounds_toArray, List.set_cons_succ, List.set_cons_zero]
  refine rel_move (v := .bool true) rfl rfl ?_
  simp only [Act.put, List.setIfInBounds_toArray, List.set_cons_succ, List.set_cons_zero]
  refine rel_val (v := .bool true) rfl (fun w' hw => by go_simp) ?_
  simp only [Act.put, List.setIfInBounds_toArray, List.set_cons_succ, List.set_cons_zero]
  refine rel_move (v := .bool true) rfl rfl ?_
  simp only [Act.put, List.setIfInBounds_toArray, List.set_cons_succ, List.set_cons_zero]
  refine rel_load_row (w.heap.size) 0 (a.map (Value.float .f64)) _ rfl rfl ra Try.underlying80 rfl (by rw [List.length_map, HA.out.1]; exact size80) ?_
  simp only [Act.put, List.setIfInBounds_toArray, List.set_cons_succ, List.set_cons_zero]
  refine rel_load_row (w.heap.size + 1) 0 (b.map (Value.float .f64)) _ rfl rfl rb Try.underlying80 rfl (by rw [List.length_map, HB.out.1]; exact size80) ?_
  simp only [Act.put, List.setIfInBounds_toArray, List.set_cons_succ, List.set_cons_zero]
  refine rel_call (f := 99) (args := #[.agg (a.map (Value.float .f64)).toArray, .agg (b.map (Value.float .f64)).toArray]) rfl (fun w' hw => by go_simp) (fun w' hw => (k99 HA.out HB.out w').mono fun e w'' ⟨⟨os, he, h1, h2⟩, hb⟩ => ⟨_, he, ⟨os, rfl, h1, h2⟩, below_trans hw hb⟩) (fun v hv => ?_)
  obtain ⟨o1, rfl, ho1, hp1⟩ := hv
  simp only [Act.put, List.setIfInBounds_toArray, List.set_cons_succ, List.set_cons_zero]
  refine rel_load_row (w.heap.size) 0 (a.map (Value.float .f64)) _ rfl rfl ra Try.underlying80 rfl (by rw [List.length_map, HA.out.1]; exact size80) ?_
  simp only [Act.put, List.setIfInBounds_toArray, List.set_cons_succ, List.set_cons_zero]
  refine rel_load_row (w.heap.size + 1) 0 (b.map (Value.float .f64)) _ rfl rfl rb Try.underlying80 rfl (by rw [List.length_map, HB.out.1]; exact size80) ?_
  simp only [Act.put, List.setIfInBounds_toArray, List.set_cons_succ, List.set_cons_zero]
  refine rel_call (f := 100) (args := #[.agg (a.map (Value.float .f64)).toArray, .agg (b.map (Value.float .f64)).toArray]) rfl (fun w' hw => by go_simp) (fun w' hw => (k100 HA.out HB.out w').mono fun e w'' ⟨⟨os, he, h1, h2⟩, hb⟩ => ⟨_, he, ⟨os, rfl, h1, h2⟩, below_trans hw hb⟩) (fun v hv => ?_)
  obtain ⟨o2, rfl, ho2, hp2⟩ := hv
  simp only [Act.put, List.setIfInBounds_toArray, List.set_cons_succ, List.set_cons_zero]
  refine rel_call (f := 81) (args := #[.agg (o1.map (Value.float .f64)).toArray, .agg (o2.map (Value.float .f64)).toArray]) rfl (fun w' hw => by go_simp) (fun w' hw => (k81 ho1 ho2 (fun j hj => (hp1 j hj).trans (hp2 j hj).symm) w').mono fun e w'' ⟨he, hb⟩ => ⟨_, he, rfl, below_trans hw hb⟩) (fun v hv => ?_)
  obtain rfl : v = .bool true := hv
  simp only [Act.put, List.setIfInBounds_toArray, List.set_cons_succ, List.set_cons_zero]
  refine rel_val (v := .bool true) rfl (fun w' hw => by go_simp) ?_
  simp only [Act.put, List.setIfInBounds_toArray, List.set_cons_succ, List.set_cons_zero]
  refine rel_move (v := .bool true) rfl rfl ?_
  simp only [Act.put, List.setIfInBounds_toArray, List.set_cons_succ, List.set_cons_zero]
  refine rel_load_row (w.heap.size) 0 (a.map (Value.float .f64)) _ rfl rfl ra Try.underlying80 rfl (by rw [List.length_map, HA.out.1]; exact size80) ?_
  simp only [Act.put, List.setIfInBounds_toArray, List.set_cons_succ, List.set_cons_zero]
  refine rel_load_row (w.heap.size + 1 + 1) 0 [.float .f64 p0, .float .f64 p1, .float .f64 p2, .float .f64 p3] _ rfl rfl rp Try.underlying60 rfl size60 ?_
  simp only [Act.put, List.setIfInBounds_toArray, List.set_cons_succ, List.set_cons_zero]
  refine rel_call (f := 101) (args := #[.agg (a.map (Value.float .f64)).toArray, .agg #[.float .f64 p0, .float .f64 p1, .float .f64 p2, .float .f64 p3]]) rfl (fun w' hw => by go_simp) (fun w' hw => (k101 HA.out HP.out.1 HP.out.2.1 HP.out.2.2.1 HP.out.2.2.2 w').mono fun e w'' ⟨⟨r0, r1, r2, r3, he, hr⟩, hb⟩ => ⟨_, he, ⟨r0, r1, r2, r3, rfl, hr⟩, below_trans hw hb⟩) (fun v hv => ?_)
  obtain ⟨q30, q31, q32, q33, rfl, hq30, hq31, hq32, hq33⟩ := hv
  simp only [Act.put, List.setIfInBounds_toArray, List.set_cons_succ, List.set_cons_zero]
  refine rel_load_row (w.heap.size) 0 (a.map (Value.float .f64)) _ rfl rfl ra Try.underlying80 rfl (by rw [List.length_map, HA.out.1]; exact size80) ?_
  simp only [Act.put, List.setIfInBounds_toArray, List.set_cons_succ, List.set_cons_zero]
  refine rel_load_row (w.heap.size + 1 + 1) 0 [.float .f64 p0, .float .f64 p1, .float .f64 p2, .float .f64 p3] _ rfl rfl rp Try.underlying60 rfl size60 ?_
  simp only [Act.put, List.setIfInBounds_toArray, List.set_cons_succ, List.set_cons_zero]
  refine rel_call (f := 102) (args := #[.agg (a.map (Value.float .f64)).toArray, .agg #[.float .f64 p0, .float .f64 p1, .float .f64 p2, .float .f64 p3]]) rfl (fun w' hw => by go_simp) (fun w' hw => (k102 HA.out HP.out.1 HP.out.2.1 HP.out.2.2.1 HP.out.2.2.2 w').mono fun e w'' ⟨⟨r0, r1, r2, r3, he, hr⟩, hb⟩ => ⟨_, he, ⟨r0, r1, r2, r3, rfl, hr⟩, below_trans hw hb⟩) (fun v hv => ?_)
  obtain ⟨q40, q41, q42, q43, rfl, hq40, hq41, hq42, hq43⟩ := hv
  simp only [Act.put, List.setIfInBounds_toArray, List.set_cons_succ, List.set_cons_zero]
  refine rel_call (f := 74) (args := #[.agg #[.float .f64 q30, .float .f64 q31, .float .f64 q32, .float .f64 q33], .agg #[.float .f64 q40, .float .f64 q41, .float .f64 q42, .float .f64 q43]]) rfl (fun w' hw => by go_simp) (fun w' hw => (k74 hq30 hq40 hq31 hq41 hq32 hq42 hq33 hq43 w').mono fun e w'' ⟨he, hb⟩ => ⟨_, he, rfl, below_trans hw hb⟩) (fun v hv => ?_)
  obtain rfl : v = .bool true := hv
  simp only [Act.put, List.setIfInBounds_toArray, List.set_cons_succ, List.set_cons_zero]
  refine rel_val (v := .bool true) rfl (fun w' hw => by go_simp) ?_
  simp only [Act.put, List.setIfInBounds_toArray, List.set_cons_succ, List.set_cons_zero]
  refine rel_move (v := .bool true) rfl rfl ?_
  simp only [Act.put, List.setIfInBounds_toArray, List.set_cons_succ, List.set_cons_zero]
  refine rel_load_row (w.heap.size) 0 (a.map (Value.float .f64)) _ rfl rfl ra Try.underlying80 rfl (by rw [List.length_map, HA.out.1]; exact size80) ?_
  simp only [Act.put, List.setIfInBounds_toArray, List.set_cons_succ, List.set_cons_zero]
  refine rel_call (f := 103) (args := #[.agg (a.map (Value.float .f64)).toArray]) rfl (fun w' hw => by go_simp) (fun w' hw => (k103 HA.out w').mono fun e w'' ⟨⟨r, he, hr⟩, hb⟩ => ⟨_, he, ⟨r, rfl, hr⟩, below_trans hw hb⟩) (fun v hv => ?_)
  obtain ⟨t5, rfl, ht5⟩ := hv
  simp only [Act.put, List.setIfInBounds_toArray, List.set_cons_succ, List.set_cons_zero]
  refine rel_load_row (w.heap.size) 0 (a.map (Value.float .f64)) _ rfl rfl ra Try.underlying80 rfl (by rw [List.length_map, HA.out.1]; exact size80) ?_
  simp only [Act.put, List.setIfInBounds_toArray, List.set_cons_succ, List.set_cons_zero]
  refine rel_call (f := 104) (args := #[.agg (a.map (Value.float .f64)).toArray]) rfl (fun w' hw => by go_simp) (fun w' hw => (k104 HA.out w').mono fun e w'' ⟨⟨r, he, hr⟩, hb⟩ => ⟨_, he, ⟨r, rfl, hr⟩, below_trans hw hb⟩) (fun v hv => ?_)
  obtain ⟨t6, rfl, ht6⟩ := hv
  simp only [Act.put, List.setIfInBounds_toArray, List.set_cons_succ, List.set_cons_zero]
  refine rel_call (f := 32) (args := #[.float .f64 t5, .float .f64 t6]) rfl (fun w' hw => by go_simp) (fun w' hw => (k32 ht5 ht6 w').mono fun e w'' ⟨he, hb⟩ => ⟨_, he, rfl, by subst hb; exact hw⟩) (fun v hv => ?_)
  obtain rfl : v = .bool true := hv
  simp only [Act.put, List.setIfInBounds_toArray, List.set_cons_succ, List.set_cons_zero]
  refine rel_val (v := .bool true) rfl (fun w' hw => by go_simp) ?_
  simp only [Act.put, List.setIfInBounds_toArray, List.set_cons_succ, List.set_cons_zero]
  refine rel_move (v := .bool true) rfl rfl ?_
  simp only [Act.put, List.setIfInBounds_toArray, List.set_cons_succ, List.set_cons_zero]
  refine rel_move (v := .bool (invOk (detP (mp a)))) rfl rfl ?_
  simp only [Act.put, List.setIfInBounds_toArray, List.set_cons_succ, List.set_cons_zero]
  refine rel_move (v := .bool (invOk (detP (mp a)))) rfl rfl ?_
  simp only [Act.put, List.setIfInBounds_toArray, List.set_cons_succ, List.set_cons_zero]
  refine rel_val (v := .bool true) rfl (fun w' hw => by go_simp) ?_
  simp only [Act.put, List.setIfInBounds_toArray, List.set_cons_succ, List.set_cons_zero]
  refine rel_val (v := .bool true) rfl (fun w' hw => by go_simp) ?_
  simp only [Act.put, List.setIfInBounds_toArray, List.set_cons_succ, List.set_cons_zero]
  refine rel_move (v := .bool true) rfl rfl ?_
  simp only [Act.put, List.setIfInBounds_toArray, List.set_cons_succ, List.set_cons_zero]
  refine rel_load_row (g9) 0 (os.map (Value.float .f64)) _ rfl rfl r9 Try.underlying80 rfl (by rw [List.length_map, HO.out.1.1]; exact size80) ?_
  simp only [Act.put, List.setIfInBounds_toArray, List.set_cons_succ, List.set_cons_zero]
  refine rel_load_row (g11) 0 (us.map (Value.float .f64)) _ rfl rfl r11 Try.underlying80 rfl (by rw [List.length_map, HU.out.1.1]; exact size80) ?_
  simp only [Act.put, List.setIfInBounds_toArray, List.set_cons_succ, List.set_cons_zero]
  refine rel_call (f := 81) (args := #[.agg (os.map (Value.float .f64)).toArray, .agg (us.map (Value.float .f64)).toArray]) rfl (fun w' hw => by go_simp) (fun w' hw => (k81 HO.out.1 HU.out.1 (fun j hj => (HO.out.2 j hj).trans (HU.out.2 j hj).symm) w').mono fun e w'' ⟨he, hb⟩ => ⟨_, he, rfl, below_trans hw hb⟩) (fun v hv => ?_)
  obtain rfl : v = .bool true := hv
  simp only [Act.put, List.setIfInBounds_toArray, List.set_cons_succ, List.set_cons_zero]
  refine rel_val (v := .bool true) rfl (fun w' hw => by go_simp) ?_
  simp only [Act.put, List.setIfInBounds_toArray, List.set_cons_succ, List.set_cons_zero]
  refine rel_move (v := .bool true) rfl rfl ?_
  simp only [Act.put, List.setIfInBounds_toArray, List.set_cons_succ, List.set_cons_zero]
  refine rel_load_row (w.heap.size) 0 (a.map (Value.float .f64)) _ rfl rfl ra Try.underlying80 rfl (by rw [List.length_map, HA.out.1]; exact size80) ?_
  simp only [Act.put, List.setIfInBounds_toArray, List.set_cons_succ, List.set_cons_zero]
  refine rel_call (f := 105) (args := #[.agg (a.map (Value.float .f64)).toArray]) rfl (fun w' hw => by go_simp) (fun w' hw => (k105 HA.out w').mono fun e w'' ⟨he, hb⟩ => ⟨_, he, rfl, below_trans hw hb⟩) (fun v hv => ?_)
  obtain rfl : v = .bool (flatP (mp a)) := hv
  simp only [Act.put, List.setIfInBounds_toArray, List.set_cons_succ, List.set_cons_zero]
  refine rel_load_row (w.heap.size) 0 (a.map (Value.float .f64)) _ rfl rfl ra Try.underlying80 rfl (by rw [List.length_map, HA.out.1]; exact size80) ?_
  simp only [Act.put, List.setIfInBounds_toArray, List.set_cons_succ, List.set_cons_zero]
  refine rel_call (f := 106) (args := #[.agg (a.map (Value.float .f64)).toArray]) rfl (fun w' hw => by go_simp) (fun w' hw => (k106 HA.out w').mono fun e w'' ⟨he, hb⟩ => ⟨_, he, rfl, below_trans hw hb⟩) (fun v hv => ?_)
  obtain rfl : v = .bool (flatP (mp a)) := hv
  simp only [Act.put, List.setIfInBounds_toArray, List.set_cons_succ, List.set_cons_zero]
  refine rel_val (v := .bool true) rfl (fun w' hw => by go_simp) ?_
  simp only [Act.put, List.setIfInBounds_toArray, List.set_cons_succ, List.set_cons_zero]
  refine rel_val (v := .bool true) rfl (fun w' hw => by go_simp) ?_
  simp only [Act.put, List.setIfInBounds_toArray, List.set_cons_succ, List.set_cons_zero]
  refine rel_assign (v := .bool true) rfl rfl ?_
  simp only [Act.put, List.setIfInBounds_toArray, List.set_cons_succ, List.set_cons_zero]
  refine rel_nil ?_
  intro w6 hB6
  have B6 := Lib.hid (below_trans hW.out.1.o hB6)
  clear hB6 hW ra rb rp r9 r11
  go_wp2
  go_ret
  exact ⟨rfl, B6.out⟩
end Go.Proofs.Ytelalledjbeenaa
