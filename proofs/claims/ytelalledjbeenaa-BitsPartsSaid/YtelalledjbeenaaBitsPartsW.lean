/- The walk of BitsParts. -/
import Derived.Test.YtelalledjbeenaaAlive
namespace Go.Proofs.Ytelalledjbeenaa
open Go.RowKit Fl

/-- a float of a place, its bits unsaid -/
def GF (p : Int) (v : Value) : Prop := ∃ r, v = .float .f64 r ∧ U r ∧ pl r = p
theorem RetF.gf {p : Int} {e : Ending} (h : RetF p e) : ∃ v, e = .returned v ∧ GF p v := by
  obtain ⟨r, he, hu, hp⟩ := h
  exact ⟨_, he, r, rfl, hu, hp⟩
def partsG (p : Int) (f : FuncId) (args : Array Value) (v : Value) : Prop :=
  (f = 33 → GF p v) ∧ (f = 34 → GF p v) ∧ (f = 32 → ∀ x y, args = #[.float .f64 x, .float .f64 y] → v = .bool (pl x == pl y))

set_option maxRecDepth 100000 in
set_option maxHeartbeats 400000 in
theorem walkBitsParts (x : Nat) (neg : Bool) (c : Int) (m : Nat) (e : Int) (w : World) (hx : U x) (h : U m) :
    Calls Try.prog 7 #[.float .f64 x, .agg #[.bool neg, .int .i64 c, .int .u64 m, .int .i64 e]] w fun e w' => e = .returned (.bool true) ∧ Below w.heap.size w w' := by
  go_enter Try.func7, Try.ntmps7
  go_wp2_with fail
  refine (c29 _).mono ?_
  rintro x1 w1 ⟨rfl, hb1⟩
  have k0 := kept_cell hb1 0
  have k1 := kept_cell hb1 1
  have k2 := kept_cell hb1 2
  have k3 := kept_cell hb1 3
  simp only [List.getElem?_toArray, List.getElem?_cons_zero, List.getElem?_cons_succ] at k0 k1 k2 k3
  have z1 := size_lt_alloc hb1
  have B1 := below_of_alloc (Below.refl _ _) hb1
  clear hb1
  go_wp2_with fail
  refine (c30 _ _ (by assumption)).mono ?_
  rintro x2 w2 ⟨rfl, hb2⟩
  go_wp2_with fail
  refine (c31 _ _ (by assumption)).mono ?_
  rintro x3 w3 ⟨rfl, hb3⟩
  have hb := below_trans hb2 hb3
  obtain ⟨hc, hf⟩ := bcell hb
  rw [← hc _ _ z1] at k0 k1 k2 k3
  have z3 : w.heap.size < w3.heap.size := Nat.lt_of_lt_of_le z1 hb.size
  have B3 := below_trans B1 hb
  clear hb2 hb3 hb hc hf B1 z1
  unfold partsV
  go_wp2_with fail
  refine wp_region_rel 6 (fun w' => Below w3.heap.size w3 w') (partsG (joinP neg c m e)) (by kernel_rfl) (by kernel_rfl) ((Below.refl _ _).drew) ?_
  simp only [List.take_succ_cons, List.take_zero, List.drop_succ_cons, List.drop_zero]
  have kk : ∀ w', Below w3.heap.size w3 w' → w'.cell? ⟨w.heap.size, 0, none⟩ = some (.bool neg) ∧ w'.cell? ⟨w.heap.size, 1, none⟩ = some (.int .i64 c) ∧ w'.cell? ⟨w.heap.size, 2, none⟩ = some (.int .u64 m) ∧ w'.cell? ⟨w.heap.size, 3, none⟩ = some (.int .i64 e) := by
    intro w' hw
    obtain ⟨hc, _⟩ := bcell hw
    exact ⟨(hc _ _ z3).trans k0, (hc _ _ z3).trans k1, (hc _ _ z3).trans k2, (hc _ _ z3).trans k3⟩
  refine rel_val (v := .agg #[.bool neg, .int .i64 c, .int .u64 m, .int .i64 e]) rfl (fun w' hw => ?_) ?_
  · obtain ⟨q0, q1, q2, q3⟩ := kk w' hw
    go_simp
  refine rel_call (f := 33) (args := #[.agg #[.bool neg, .int .i64 c, .int .u64 m, .int .i64 e]]) rfl (fun w' hw => ?_) (fun w' hw => ?_) (fun v hv => ?_)
  · go_simp
  · refine (c33 neg c m e w' h).mono ?_
    rintro y w'' ⟨hr, hb⟩
    obtain ⟨v, rfl, hv⟩ := hr.gf
    exact ⟨v, rfl, ⟨fun _ => hv, fun h => (by cases h), fun h => (by cases h)⟩, below_trans hw hb⟩
  obtain ⟨r1, rfl, u1, p1⟩ := hv.1 rfl
  refine rel_val (v := .agg #[.bool neg, .int .i64 c, .int .u64 m, .int .i64 e]) rfl (fun w' hw => ?_) ?_
  · obtain ⟨q0, q1, q2, q3⟩ := kk w' hw
    go_simp
  refine rel_call (f := 34) (args := #[.agg #[.bool neg, .int .i64 c, .int .u64 m, .int .i64 e]]) rfl (fun w' hw => ?_) (fun w' hw => ?_) (fun v hv => ?_)
  · go_simp
  · refine (c34 neg c m e w' h).mono ?_
    rintro y w'' ⟨hr, hb⟩
    obtain ⟨v, rfl, hv⟩ := hr.gf
    exact ⟨v, rfl, ⟨fun h => (by cases h), fun _ => hv, fun h => (by cases h)⟩, below_trans hw hb⟩
  obtain ⟨r2, rfl, u2, p2⟩ := hv.2.1 rfl
  refine rel_call (f := 32) (args := #[.float .f64 r1, .float .f64 r2]) rfl (fun w' hw => ?_) (fun w' hw => ?_) (fun v hv => ?_)
  · go_simp
  · refine (c32 r1 r2 w' u1 u2).mono ?_
    rintro y w'' ⟨rfl, rfl⟩
    exact ⟨_, rfl, ⟨fun h => (by cases h), fun h => (by cases h), fun _ x y hxy => by cases hxy; rfl⟩, hw⟩
  have hv := hv.2.2 rfl r1 r2 rfl
  rw [p1, p2, beq_self_eq_true] at hv
  subst hv
  refine rel_val (v := .bool true) rfl (fun w' hw => ?_) (rel_nil (fun w4 hw4 => ?_))
  · go_simp
  have B4 := below_trans B3 hw4
  clear hw4 kk k0 k1 k2 k3 z3 B3
  go_wp2
  go_ret
  exact ⟨rfl, B4⟩
end Go.Proofs.Ytelalledjbeenaa
