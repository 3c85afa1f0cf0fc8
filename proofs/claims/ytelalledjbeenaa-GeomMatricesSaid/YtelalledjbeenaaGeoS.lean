/- What the callees of the laws' drawn regions may answer: printed by geo14.py. -/
import Derived.Test.YtelalledjbeenaaGeoR
namespace Go.Proofs.Ytelalledjbeenaa
open Go.RowKit Fl

def GR (B : Bool) (f : FuncId) (args : Array Value) (v : Value) : Prop :=
  match f with
  | 48 => ∀ (a0 a1 a2 a3 : Nat), args = #[.agg #[.float .f64 a0, .float .f64 a1, .float .f64 a2, .float .f64 a3]] → ∃ r : Nat, v = .float .f64 r ∧ RV r (loP (pl a0) (pl a2))
  | 49 => ∀ (a0 a1 a2 a3 : Nat), args = #[.agg #[.float .f64 a0, .float .f64 a1, .float .f64 a2, .float .f64 a3]] → ∃ r : Nat, v = .float .f64 r ∧ RV r (loP (pl a1) (pl a3))
  | 50 => ∀ (a0 a1 a2 a3 : Nat), args = #[.agg #[.float .f64 a0, .float .f64 a1, .float .f64 a2, .float .f64 a3]] → ∃ r : Nat, v = .float .f64 r ∧ RV r (hiP (pl a0) (pl a2))
  | 51 => ∀ (a0 a1 a2 a3 : Nat), args = #[.agg #[.float .f64 a0, .float .f64 a1, .float .f64 a2, .float .f64 a3]] → ∃ r : Nat, v = .float .f64 r ∧ RV r (hiP (pl a1) (pl a3))
  | 55 => ∀ (a0 a1 a2 a3 a4 a5 a6 a7 : Nat), args = #[.agg #[.float .f64 a0, .float .f64 a1, .float .f64 a2, .float .f64 a3], .agg #[.float .f64 a4, .float .f64 a5, .float .f64 a6, .float .f64 a7]] → ∃ r0 r1 r2 r3 : Nat, v = .agg #[.float .f64 r0, .float .f64 r1, .float .f64 r2, .float .f64 r3] ∧ RV r0 (minP (loP (pl a0) (pl a2)) (loP (pl a4) (pl a6))) ∧ RV r1 (minP (loP (pl a1) (pl a3)) (loP (pl a5) (pl a7))) ∧ RV r2 (opP .sub (maxP (hiP (pl a0) (pl a2)) (hiP (pl a4) (pl a6))) (minP (loP (pl a0) (pl a2)) (loP (pl a4) (pl a6)))) ∧ RV r3 (opP .sub (maxP (hiP (pl a1) (pl a3)) (hiP (pl a5) (pl a7))) (minP (loP (pl a1) (pl a3)) (loP (pl a5) (pl a7))))
  | 56 => ∀ (a0 a1 a2 a3 a4 a5 a6 a7 : Nat), args = #[.agg #[.float .f64 a0, .float .f64 a1, .float .f64 a2, .float .f64 a3], .agg #[.float .f64 a4, .float .f64 a5, .float .f64 a6, .float .f64 a7]] → ∃ r0 r1 r2 r3 : Nat, v = .agg #[.float .f64 r0, .float .f64 r1, .float .f64 r2, .float .f64 r3] ∧ RV r0 (minP (loP (pl a0) (pl a2)) (loP (pl a4) (pl a6))) ∧ RV r1 (minP (loP (pl a1) (pl a3)) (loP (pl a5) (pl a7))) ∧ RV r2 (opP .sub (maxP (hiP (pl a0) (pl a2)) (hiP (pl a4) (pl a6))) (minP (loP (pl a0) (pl a2)) (loP (pl a4) (pl a6)))) ∧ RV r3 (opP .sub (maxP (hiP (pl a1) (pl a3)) (hiP (pl a5) (pl a7))) (minP (loP (pl a1) (pl a3)) (loP (pl a5) (pl a7))))
  | 32 => v = .bool true
  | 54 => v = .bool true
  | 57 => v = .bool B
  | 58 => v = .bool B
  | _ => True

section
variable {B : Bool}
theorem g48r {w0 w : World} {a0 a1 a2 a3 : Nat} {P0 P1 P2 P3 : Int} (h0 : RV a0 P0) (h1 : RV a1 P1) (h2 : RV a2 P2) (h3 : RV a3 P3) (hw : Below w0.heap.size w0 w) : Calls Try.prog 48 #[.agg #[.float .f64 a0, .float .f64 a1, .float .f64 a2, .float .f64 a3]] w fun e w' => ∃ v, e = .returned v ∧ GR B 48 #[.agg #[.float .f64 a0, .float .f64 a1, .float .f64 a2, .float .f64 a3]] v ∧ Below w0.heap.size w0 w' :=
  (k48 (RV.self h0.1) (RV.self h1.1) (RV.self h2.1) (RV.self h3.1) w).mono fun e w' ⟨⟨r, he, hr⟩, hb⟩ => ⟨_, he, fun ba0 ba1 ba2 ba3 hh => by cases hh; exact ⟨r, rfl, hr⟩, below_trans hw hb⟩
theorem G48r {a0 a1 a2 a3 : Nat} {P0 P1 P2 P3 : Int} {v : Value} (hv : GR B 48 #[.agg #[.float .f64 a0, .float .f64 a1, .float .f64 a2, .float .f64 a3]] v) (h0 : RV a0 P0) (h1 : RV a1 P1) (h2 : RV a2 P2) (h3 : RV a3 P3) : ∃ r : Nat, v = .float .f64 r ∧ RV r (loP P0 P2) := by
  obtain ⟨_, rfl⟩ := h0
  obtain ⟨_, rfl⟩ := h1
  obtain ⟨_, rfl⟩ := h2
  obtain ⟨_, rfl⟩ := h3
  exact hv _ _ _ _ rfl
theorem g49r {w0 w : World} {a0 a1 a2 a3 : Nat} {P0 P1 P2 P3 : Int} (h0 : RV a0 P0) (h1 : RV a1 P1) (h2 : RV a2 P2) (h3 : RV a3 P3) (hw : Below w0.heap.size w0 w) : Calls Try.prog 49 #[.agg #[.float .f64 a0, .float .f64 a1, .float .f64 a2, .float .f64 a3]] w fun e w' => ∃ v, e = .returned v ∧ GR B 49 #[.agg #[.float .f64 a0, .float .f64 a1, .float .f64 a2, .float .f64 a3]] v ∧ Below w0.heap.size w0 w' :=
  (k49 (RV.self h0.1) (RV.self h1.1) (RV.self h2.1) (RV.self h3.1) w).mono fun e w' ⟨⟨r, he, hr⟩, hb⟩ => ⟨_, he, fun ba0 ba1 ba2 ba3 hh => by cases hh; exact ⟨r, rfl, hr⟩, below_trans hw hb⟩
theorem G49r {a0 a1 a2 a3 : Nat} {P0 P1 P2 P3 : Int} {v : Value} (hv : GR B 49 #[.agg #[.float .f64 a0, .float .f64 a1, .float .f64 a2, .float .f64 a3]] v) (h0 : RV a0 P0) (h1 : RV a1 P1) (h2 : RV a2 P2) (h3 : RV a3 P3) : ∃ r : Nat, v = .float .f64 r ∧ RV r (loP P1 P3) := by
  obtain ⟨_, rfl⟩ := h0
  obtain ⟨_, rfl⟩ := h1
  obtain ⟨_, rfl⟩ := h2
  obtain ⟨_, rfl⟩ := h3
  exact hv _ _ _ _ rfl
theorem g50r {w0 w : World} {a0 a1 a2 a3 : Nat} {P0 P1 P2 P3 : Int} (h0 : RV a0 P0) (h1 : RV a1 P1) (h2 : RV a2 P2) (h3 : RV a3 P3) (hw : Below w0.heap.size w0 w) : Calls Try.prog 50 #[.agg #[.float .f64 a0, .float .f64 a1, .float .f64 a2, .float .f64 a3]] w fun e w' => ∃ v, e = .returned v ∧ GR B 50 #[.agg #[.float .f64 a0, .float .f64 a1, .float .f64 a2, .float .f64 a3]] v ∧ Below w0.heap.size w0 w' :=
  (k50 (RV.self h0.1) (RV.self h1.1) (RV.self h2.1) (RV.self h3.1) w).mono fun e w' ⟨⟨r, he, hr⟩, hb⟩ => ⟨_, he, fun ba0 ba1 ba2 ba3 hh => by cases hh; exact ⟨r, rfl, hr⟩, below_trans hw hb⟩
theorem G50r {a0 a1 a2 a3 : Nat} {P0 P1 P2 P3 : Int} {v : Value} (hv : GR B 50 #[.agg #[.float .f64 a0, .float .f64 a1, .float .f64 a2, .float .f64 a3]] v) (h0 : RV a0 P0) (h1 : RV a1 P1) (h2 : RV a2 P2) (h3 : RV a3 P3) : ∃ r : Nat, v = .float .f64 r ∧ RV r (hiP P0 P2) := by
  obtain ⟨_, rfl⟩ := h0
  obtain ⟨_, rfl⟩ := h1
  obtain ⟨_, rfl⟩ := h2
  obtain ⟨_, rfl⟩ := h3
  exact hv _ _ _ _ rfl
theorem g51r {w0 w : World} {a0 a1 a2 a3 : Nat} {P0 P1 P2 P3 : Int} (h0 : RV a0 P0) (h1 : RV a1 P1) (h2 : RV a2 P2) (h3 : RV a3 P3) (hw : Below w0.heap.size w0 w) : Calls Try.prog 51 #[.agg #[.float .f64 a0, .float .f64 a1, .float .f64 a2, .float .f64 a3]] w fun e w' => ∃ v, e = .returned v ∧ GR B 51 #[.agg #[.float .f64 a0, .float .f64 a1, .float .f64 a2, .float .f64 a3]] v ∧ Below w0.heap.size w0 w' :=
  (k51 (RV.self h0.1) (RV.self h1.1) (RV.self h2.1) (RV.self h3.1) w).mono fun e w' ⟨⟨r, he, hr⟩, hb⟩ => ⟨_, he, fun ba0 ba1 ba2 ba3 hh => by cases hh; exact ⟨r, rfl, hr⟩, below_trans hw hb⟩
theorem G51r {a0 a1 a2 a3 : Nat} {P0 P1 P2 P3 : Int} {v : Value} (hv : GR B 51 #[.agg #[.float .f64 a0, .float .f64 a1, .float .f64 a2, .float .f64 a3]] v) (h0 : RV a0 P0) (h1 : RV a1 P1) (h2 : RV a2 P2) (h3 : RV a3 P3) : ∃ r : Nat, v = .float .f64 r ∧ RV r (hiP P1 P3) := by
  obtain ⟨_, rfl⟩ := h0
  obtain ⟨_, rfl⟩ := h1
  obtain ⟨_, rfl⟩ := h2
  obtain ⟨_, rfl⟩ := h3
  exact hv _ _ _ _ rfl
theorem g55r {w0 w : World} {a0 a1 a2 a3 a4 a5 a6 a7 : Nat} {P0 P1 P2 P3 P4 P5 P6 P7 : Int} (h0 : RV a0 P0) (h1 : RV a1 P1) (h2 : RV a2 P2) (h3 : RV a3 P3) (h4 : RV a4 P4) (h5 : RV a5 P5) (h6 : RV a6 P6) (h7 : RV a7 P7) (hw : Below w0.heap.size w0 w) : Calls Try.prog 55 #[.agg #[.float .f64 a0, .float .f64 a1, .float .f64 a2, .float .f64 a3], .agg #[.float .f64 a4, .float .f64 a5, .float .f64 a6, .float .f64 a7]] w fun e w' => ∃ v, e = .returned v ∧ GR B 55 #[.agg #[.float .f64 a0, .float .f64 a1, .float .f64 a2, .float .f64 a3], .agg #[.float .f64 a4, .float .f64 a5, .float .f64 a6, .float .f64 a7]] v ∧ Below w0.heap.size w0 w' :=
  (k55 (RV.self h0.1) (RV.self h1.1) (RV.self h2.1) (RV.self h3.1) (RV.self h4.1) (RV.self h5.1) (RV.self h6.1) (RV.self h7.1) w).mono fun e w' ⟨⟨r0, r1, r2, r3, he, hr⟩, hb⟩ => ⟨_, he, fun ba0 ba1 ba2 ba3 ba4 ba5 ba6 ba7 hh => by cases hh; exact ⟨r0, r1, r2, r3, rfl, hr⟩, below_trans hw hb⟩
theorem G55r {a0 a1 a2 a3 a4 a5 a6 a7 : Nat} {P0 P1 P2 P3 P4 P5 P6 P7 : Int} {v : Value} (hv : GR B 55 #[.agg #[.float .f64 a0, .float .f64 a1, .float .f64 a2, .float .f64 a3], .agg #[.float .f64 a4, .float .f64 a5, .float .f64 a6, .float .f64 a7]] v) (h0 : RV a0 P0) (h1 : RV a1 P1) (h2 : RV a2 P2) (h3 : RV a3 P3) (h4 : RV a4 P4) (h5 : RV a5 P5) (h6 : RV a6 P6) (h7 : RV a7 P7) : ∃ r0 r1 r2 r3 : Nat, v = .agg #[.float .f64 r0, .float .f64 r1, .float .f64 r2, .float .f64 r3] ∧ RV r0 (minP (loP P0 P2) (loP P4 P6)) ∧ RV r1 (minP (loP P1 P3) (loP P5 P7)) ∧ RV r2 (opP .sub (maxP (hiP P0 P2) (hiP P4 P6)) (minP (loP P0 P2) (loP P4 P6))) ∧ RV r3 (opP .sub (maxP (hiP P1 P3) (hiP P5 P7)) (minP (loP P1 P3) (loP P5 P7))) := by
  obtain ⟨_, rfl⟩ := h0
  obtain ⟨_, rfl⟩ := h1
  obtain ⟨_, rfl⟩ := h2
  obtain ⟨_, rfl⟩ := h3
  obtain ⟨_, rfl⟩ := h4
  obtain ⟨_, rfl⟩ := h5
  obtain ⟨_, rfl⟩ := h6
  obtain ⟨_, rfl⟩ := h7
  exact hv _ _ _ _ _ _ _ _ rfl
theorem g56r {w0 w : World} {a0 a1 a2 a3 a4 a5 a6 a7 : Nat} {P0 P1 P2 P3 P4 P5 P6 P7 : Int} (h0 : RV a0 P0) (h1 : RV a1 P1) (h2 : RV a2 P2) (h3 : RV a3 P3) (h4 : RV a4 P4) (h5 : RV a5 P5) (h6 : RV a6 P6) (h7 : RV a7 P7) (hw : Below w0.heap.size w0 w) : Calls Try.prog 56 #[.agg #[.float .f64 a0, .float .f64 a1, .float .f64 a2, .float .f64 a3], .agg #[.float .f64 a4, .float .f64 a5, .float .f64 a6, .float .f64 a7]] w fun e w' => ∃ v, e = .returned v ∧ GR B 56 #[.agg #[.float .f64 a0, .float .f64 a1, .float .f64 a2, .float .f64 a3], .agg #[.float .f64 a4, .float .f64 a5, .float .f64 a6, .float .f64 a7]] v ∧ Below w0.heap.size w0 w' :=
  (k56 (RV.self h0.1) (RV.self h1.1) (RV.self h2.1) (RV.self h3.1) (RV.self h4.1) (RV.self h5.1) (RV.self h6.1) (RV.self h7.1) w).mono fun e w' ⟨⟨r0, r1, r2, r3, he, hr⟩, hb⟩ => ⟨_, he, fun ba0 ba1 ba2 ba3 ba4 ba5 ba6 ba7 hh => by cases hh; exact ⟨r0, r1, r2, r3, rfl, hr⟩, below_trans hw hb⟩
theorem G56r {a0 a1 a2 a3 a4 a5 a6 a7 : Nat} {P0 P1 P2 P3 P4 P5 P6 P7 : Int} {v : Value} (hv : GR B 56 #[.agg #[.float .f64 a0, .float .f64 a1, .float .f64 a2, .float .f64 a3], .agg #[.float .f64 a4, .float .f64 a5, .float .f64 a6, .float .f64 a7]] v) (h0 : RV a0 P0) (h1 : RV a1 P1) (h2 : RV a2 P2) (h3 : RV a3 P3) (h4 : RV a4 P4) (h5 : RV a5 P5) (h6 : RV a6 P6) (h7 : RV a7 P7) : ∃ r0 r1 r2 r3 : Nat, v = .agg #[.float .f64 r0, .float .f64 r1, .float .f64 r2, .float .f64 r3] ∧ RV r0 (minP (loP P0 P2) (loP P4 P6)) ∧ RV r1 (minP (loP P1 P3) (loP P5 P7)) ∧ RV r2 (opP .sub (maxP (hiP P0 P2) (hiP P4 P6)) (minP (loP P0 P2) (loP P4 P6))) ∧ RV r3 (opP .sub (maxP (hiP P1 P3) (hiP P5 P7)) (minP (loP P1 P3) (loP P5 P7))) := by
  obtain ⟨_, rfl⟩ := h0
  obtain ⟨_, rfl⟩ := h1
  obtain ⟨_, rfl⟩ := h2
  obtain ⟨_, rfl⟩ := h3
  obtain ⟨_, rfl⟩ := h4
  obtain ⟨_, rfl⟩ := h5
  obtain ⟨_, rfl⟩ := h6
  obtain ⟨_, rfl⟩ := h7
  exact hv _ _ _ _ _ _ _ _ rfl

theorem g32r {w0 w : World} {x y : Nat} {P : Int} (hx : RV x P) (hy : RV y P) (hw : Below w0.heap.size w0 w) : Calls Try.prog 32 #[.float .f64 x, .float .f64 y] w fun e w' => ∃ v, e = .returned v ∧ GR B 32 #[.float .f64 x, .float .f64 y] v ∧ Below w0.heap.size w0 w' :=
  (k32 hx hy w).mono fun e w' ⟨he, hb⟩ => ⟨_, he, rfl, by subst hb; exact hw⟩
end
end Go.Proofs.Ytelalledjbeenaa
