/- What the callees of drawn regions may answer, by places: printed by geo.py. -/
import Derived.Test.YtelalledjbeenaaGeoA
namespace Go.Proofs.Ytelalledjbeenaa
open Go.RowKit Fl


def GEO (f : FuncId) (args : Array Value) (v : Value) : Prop :=
  match f with
  | 47 => ∀ (a0 a1 a2 a3 : Nat), args = #[.agg #[.float .f64 a0, .float .f64 a1, .float .f64 a2, .float .f64 a3]] → ∃ r0 r1 r2 r3 : Nat, v = .agg #[.float .f64 r0, .float .f64 r1, .float .f64 r2, .float .f64 r3] ∧ RV r0 (loP (pl a0) (pl a2)) ∧ RV r1 (loP (pl a1) (pl a3)) ∧ RV r2 (hiP (pl a0) (pl a2)) ∧ RV r3 (hiP (pl a1) (pl a3))
  | 48 => ∀ (a0 a1 a2 a3 : Nat), args = #[.agg #[.float .f64 a0, .float .f64 a1, .float .f64 a2, .float .f64 a3]] → ∃ r : Nat, v = .float .f64 r ∧ RV r (loP (pl a0) (pl a2))
  | 49 => ∀ (a0 a1 a2 a3 : Nat), args = #[.agg #[.float .f64 a0, .float .f64 a1, .float .f64 a2, .float .f64 a3]] → ∃ r : Nat, v = .float .f64 r ∧ RV r (loP (pl a1) (pl a3))
  | 50 => ∀ (a0 a1 a2 a3 : Nat), args = #[.agg #[.float .f64 a0, .float .f64 a1, .float .f64 a2, .float .f64 a3]] → ∃ r : Nat, v = .float .f64 r ∧ RV r (hiP (pl a0) (pl a2))
  | 51 => ∀ (a0 a1 a2 a3 : Nat), args = #[.agg #[.float .f64 a0, .float .f64 a1, .float .f64 a2, .float .f64 a3]] → ∃ r : Nat, v = .float .f64 r ∧ RV r (hiP (pl a1) (pl a3))
  | 83 => ∀ (a0 a1 : Nat), args = #[.float .f64 a0, .float .f64 a1] → ∃ r : Nat, v = .float .f64 r ∧ RV r (minP (pl a0) (pl a1))
  | 84 => ∀ (a0 a1 : Nat), args = #[.float .f64 a0, .float .f64 a1] → ∃ r : Nat, v = .float .f64 r ∧ RV r (maxP (pl a0) (pl a1))
  | 110 => ∀ (a0 a1 : Nat), args = #[.float .f64 a0, .float .f64 a1] → ∃ r : Nat, v = .float .f64 r ∧ RV r (minP (pl a0) (pl a1))
  | 111 => ∀ (a0 a1 : Nat), args = #[.float .f64 a0, .float .f64 a1] → ∃ r : Nat, v = .float .f64 r ∧ RV r (maxP (pl a0) (pl a1))
  | 148 => ∀ (a0 a1 a2 a3 : Nat), args = #[.float .f64 a0, .float .f64 a1, .float .f64 a2, .float .f64 a3] → ∃ r0 r1 r2 r3 : Nat, v = .agg #[.float .f64 r0, .float .f64 r1, .float .f64 r2, .float .f64 r3] ∧ RV r0 ((pl a0)) ∧ RV r1 ((pl a1)) ∧ RV r2 (opP .sub (pl a2) (pl a0)) ∧ RV r3 (opP .sub (pl a3) (pl a1))
  | 149 => ∀ (a0 a1 a2 a3 : Nat), args = #[.float .f64 a0, .float .f64 a1, .float .f64 a2, .float .f64 a3] → ∃ r0 r1 r2 r3 : Nat, v = .agg #[.float .f64 r0, .float .f64 r1, .float .f64 r2, .float .f64 r3] ∧ RV r0 ((pl a0)) ∧ RV r1 ((pl a1)) ∧ RV r2 (opP .sub (pl a2) (pl a0)) ∧ RV r3 (opP .sub (pl a3) (pl a1))
  | _ => True

theorem g48 {w0 w : World} {a0 a1 a2 a3 : Nat} {P0 P1 P2 P3 : Int} (h0 : RV a0 P0) (h1 : RV a1 P1) (h2 : RV a2 P2) (h3 : RV a3 P3) (hw : Below w0.heap.size w0 w) : Calls Try.prog 48 #[.agg #[.float .f64 a0, .float .f64 a1, .float .f64 a2, .float .f64 a3]] w fun e w' => ∃ v, e = .returned v ∧ GEO 48 #[.agg #[.float .f64 a0, .float .f64 a1, .float .f64 a2, .float .f64 a3]] v ∧ Below w0.heap.size w0 w' :=
  (k48 (RV.self h0.1) (RV.self h1.1) (RV.self h2.1) (RV.self h3.1) w).mono fun e w' ⟨⟨r, he, hr⟩, hb⟩ => ⟨_, he, fun ba0 ba1 ba2 ba3 hh => by cases hh; exact ⟨r, rfl, hr⟩, below_trans hw hb⟩
theorem G48 {a0 a1 a2 a3 : Nat} {P0 P1 P2 P3 : Int} {v : Value} (hv : GEO 48 #[.agg #[.float .f64 a0, .float .f64 a1, .float .f64 a2, .float .f64 a3]] v) (h0 : RV a0 P0) (h1 : RV a1 P1) (h2 : RV a2 P2) (h3 : RV a3 P3) : ∃ r : Nat, v = .float .f64 r ∧ RV r (loP P0 P2) := by
  obtain ⟨_, rfl⟩ := h0
  obtain ⟨_, rfl⟩ := h1
  obtain ⟨_, rfl⟩ := h2
  obtain ⟨_, rfl⟩ := h3
  exact hv _ _ _ _ rfl
theorem g49 {w0 w : World} {a0 a1 a2 a3 : Nat} {P0 P1 P2 P3 : Int} (h0 : RV a0 P0) (h1 : RV a1 P1) (h2 : RV a2 P2) (h3 : RV a3 P3) (hw : Below w0.heap.size w0 w) : Calls Try.prog 49 #[.agg #[.float .f64 a0, .float .f64 a1, .float .f64 a2, .float .f64 a3]] w fun e w' => ∃ v, e = .returned v ∧ GEO 49 #[.agg #[.float .f64 a0, .float .f64 a1, .float .f64 a2, .float .f64 a3]] v ∧ Below w0.heap.size w0 w' :=
  (k49 (RV.self h0.1) (RV.self h1.1) (RV.self h2.1) (RV.self h3.1) w).mono fun e w' ⟨⟨r, he, hr⟩, hb⟩ => ⟨_, he, fun ba0 ba1 ba2 ba3 hh => by cases hh; exact ⟨r, rfl, hr⟩, below_trans hw hb⟩
theorem G49 {a0 a1 a2 a3 : Nat} {P0 P1 P2 P3 : Int} {v : Value} (hv : GEO 49 #[.agg #[.float .f64 a0, .float .f64 a1, .float .f64 a2, .float .f64 a3]] v) (h0 : RV a0 P0) (h1 : RV a1 P1) (h2 : RV a2 P2) (h3 : RV a3 P3) : ∃ r : Nat, v = .float .f64 r ∧ RV r (loP P1 P3) := by
  obtain ⟨_, rfl⟩ := h0
  obtain ⟨_, rfl⟩ := h1
  obtain ⟨_, rfl⟩ := h2
  obtain ⟨_, rfl⟩ := h3
  exact hv _ _ _ _ rfl
theorem g50 {w0 w : World} {a0 a1 a2 a3 : Nat} {P0 P1 P2 P3 : Int} (h0 : RV a0 P0) (h1 : RV a1 P1) (h2 : RV a2 P2) (h3 : RV a3 P3) (hw : Below w0.heap.size w0 w) : Calls Try.prog 50 #[.agg #[.float .f64 a0, .float .f64 a1, .float .f64 a2, .float .f64 a3]] w fun e w' => ∃ v, e = .returned v ∧ GEO 50 #[.agg #[.float .f64 a0, .float .f64 a1, .float .f64 a2, .float .f64 a3]] v ∧ Below w0.heap.size w0 w' :=
  (k50 (RV.self h0.1) (RV.self h1.1) (RV.self h2.1) (RV.self h3.1) w).mono fun e w' ⟨⟨r, he, hr⟩, hb⟩ => ⟨_, he, fun ba0 ba1 ba2 ba3 hh => by cases hh; exact ⟨r, rfl, hr⟩, below_trans hw hb⟩
theorem G50 {a0 a1 a2 a3 : Nat} {P0 P1 P2 P3 : Int} {v : Value} (hv : GEO 50 #[.agg #[.float .f64 a0, .float .f64 a1, .float .f64 a2, .float .f64 a3]] v) (h0 : RV a0 P0) (h1 : RV a1 P1) (h2 : RV a2 P2) (h3 : RV a3 P3) : ∃ r : Nat, v = .float .f64 r ∧ RV r (hiP P0 P2) := by
  obtain ⟨_, rfl⟩ := h0
  obtain ⟨_, rfl⟩ := h1
  obtain ⟨_, rfl⟩ := h2
  obtain ⟨_, rfl⟩ := h3
  exact hv _ _ _ _ rfl
theorem g51 {w0 w : World} {a0 a1 a2 a3 : Nat} {P0 P1 P2 P3 : Int} (h0 : RV a0 P0) (h1 : RV a1 P1) (h2 : RV a2 P2) (h3 : RV a3 P3) (hw : Below w0.heap.size w0 w) : Calls Try.prog 51 #[.agg #[.float .f64 a0, .float .f64 a1, .float .f64 a2, .float .f64 a3]] w fun e w' => ∃ v, e = .returned v ∧ GEO 51 #[.agg #[.float .f64 a0, .float .f64 a1, .float .f64 a2, .float .f64 a3]] v ∧ Below w0.heap.size w0 w' :=
  (k51 (RV.self h0.1) (RV.self h1.1) (RV.self h2.1) (RV.self h3.1) w).mono fun e w' ⟨⟨r, he, hr⟩, hb⟩ => ⟨_, he, fun ba0 ba1 ba2 ba3 hh => by cases hh; exact ⟨r, rfl, hr⟩, below_trans hw hb⟩
theorem G51 {a0 a1 a2 a3 : Nat} {P0 P1 P2 P3 : Int} {v : Value} (hv : GEO 51 #[.agg #[.float .f64 a0, .float .f64 a1, .float .f64 a2, .float .f64 a3]] v) (h0 : RV a0 P0) (h1 : RV a1 P1) (h2 : RV a2 P2) (h3 : RV a3 P3) : ∃ r : Nat, v = .float .f64 r ∧ RV r (hiP P1 P3) := by
  obtain ⟨_, rfl⟩ := h0
  obtain ⟨_, rfl⟩ := h1
  obtain ⟨_, rfl⟩ := h2
  obtain ⟨_, rfl⟩ := h3
  exact hv _ _ _ _ rfl
theorem g83 {w0 w : World} {a0 a1 : Nat} {P0 P1 : Int} (h0 : RV a0 P0) (h1 : RV a1 P1) (hw : Below w0.heap.size w0 w) : Calls Try.prog 83 #[.float .f64 a0, .float .f64 a1] w fun e w' => ∃ v, e = .returned v ∧ GEO 83 #[.float .f64 a0, .float .f64 a1] v ∧ Below w0.heap.size w0 w' :=
  (k83 (RV.self h0.1) (RV.self h1.1) w).mono fun e w' ⟨⟨r, he, hr⟩, hb⟩ => ⟨_, he, fun ba0 ba1 hh => by cases hh; exact ⟨r, rfl, hr⟩, by subst hb; exact hw⟩
theorem G83 {a0 a1 : Nat} {P0 P1 : Int} {v : Value} (hv : GEO 83 #[.float .f64 a0, .float .f64 a1] v) (h0 : RV a0 P0) (h1 : RV a1 P1) : ∃ r : Nat, v = .float .f64 r ∧ RV r (minP P0 P1) := by
  obtain ⟨_, rfl⟩ := h0
  obtain ⟨_, rfl⟩ := h1
  exact hv _ _ rfl
theorem g84 {w0 w : World} {a0 a1 : Nat} {P0 P1 : Int} (h0 : RV a0 P0) (h1 : RV a1 P1) (hw : Below w0.heap.size w0 w) : Calls Try.prog 84 #[.float .f64 a0, .float .f64 a1] w fun e w' => ∃ v, e = .returned v ∧ GEO 84 #[.float .f64 a0, .float .f64 a1] v ∧ Below w0.heap.size w0 w' :=
  (k84 (RV.self h0.1) (RV.self h1.1) w).mono fun e w' ⟨⟨r, he, hr⟩, hb⟩ => ⟨_, he, fun ba0 ba1 hh => by cases hh; exact ⟨r, rfl, hr⟩, by subst hb; exact hw⟩
theorem G84 {a0 a1 : Nat} {P0 P1 : Int} {v : Value} (hv : GEO 84 #[.float .f64 a0, .float .f64 a1] v) (h0 : RV a0 P0) (h1 : RV a1 P1) : ∃ r : Nat, v = .float .f64 r ∧ RV r (maxP P0 P1) := by
  obtain ⟨_, rfl⟩ := h0
  obtain ⟨_, rfl⟩ := h1
  exact hv _ _ rfl
theorem g110 {w0 w : World} {a0 a1 : Nat} {P0 P1 : Int} (h0 : RV a0 P0) (h1 : RV a1 P1) (hw : Below w0.heap.size w0 w) : Calls Try.prog 110 #[.float .f64 a0, .float .f64 a1] w fun e w' => ∃ v, e = .returned v ∧ GEO 110 #[.float .f64 a0, .float .f64 a1] v ∧ Below w0.heap.size w0 w' :=
  (k110 (RV.self h0.1) (RV.self h1.1) w).mono fun e w' ⟨⟨r, he, hr⟩, hb⟩ => ⟨_, he, fun ba0 ba1 hh => by cases hh; exact ⟨r, rfl, hr⟩, by subst hb; exact hw⟩
theorem G110 {a0 a1 : Nat} {P0 P1 : Int} {v : Value} (hv : GEO 110 #[.float .f64 a0, .float .f64 a1] v) (h0 : RV a0 P0) (h1 : RV a1 P1) : ∃ r : Nat, v = .float .f64 r ∧ RV r (minP P0 P1) := by
  obtain ⟨_, rfl⟩ := h0
  obtain ⟨_, rfl⟩ := h1
  exact hv _ _ rfl
theorem g111 {w0 w : World} {a0 a1 : Nat} {P0 P1 : Int} (h0 : RV a0 P0) (h1 : RV a1 P1) (hw : Below w0.heap.size w0 w) : Calls Try.prog 111 #[.float .f64 a0, .float .f64 a1] w fun e w' => ∃ v, e = .returned v ∧ GEO 111 #[.float .f64 a0, .float .f64 a1] v ∧ Below w0.heap.size w0 w' :=
  (k111 (RV.self h0.1) (RV.self h1.1) w).mono fun e w' ⟨⟨r, he, hr⟩, hb⟩ => ⟨_, he, fun ba0 ba1 hh => by cases hh; exact ⟨r, rfl, hr⟩, by subst hb; exact hw⟩
theorem G111 {a0 a1 : Nat} {P0 P1 : Int} {v : Value} (hv : GEO 111 #[.float .f64 a0, .float .f64 a1] v) (h0 : RV a0 P0) (h1 : RV a1 P1) : ∃ r : Nat, v = .float .f64 r ∧ RV r (maxP P0 P1) := by
  obtain ⟨_, rfl⟩ := h0
  obtain ⟨_, rfl⟩ := h1
  exact hv _ _ rfl
theorem g148 {w0 w : World} {a0 a1 a2 a3 : Nat} {P0 P1 P2 P3 : Int} (h0 : RV a0 P0) (h1 : RV a1 P1) (h2 : RV a2 P2) (h3 : RV a3 P3) (hw : Below w0.heap.size w0 w) : Calls Try.prog 148 #[.float .f64 a0, .float .f64 a1, .float .f64 a2, .float .f64 a3] w fun e w' => ∃ v, e = .returned v ∧ GEO 148 #[.float .f64 a0, .float .f64 a1, .float .f64 a2, .float .f64 a3] v ∧ Below w0.heap.size w0 w' :=
  (k148 (RV.self h0.1) (RV.self h1.1) (RV.self h2.1) (RV.self h3.1) w).mono fun e w' ⟨⟨r0, r1, r2, r3, he, hr⟩, hb⟩ => ⟨_, he, fun ba0 ba1 ba2 ba3 hh => by cases hh; exact ⟨r0, r1, r2, r3, rfl, hr⟩, below_trans hw hb⟩
theorem G148 {a0 a1 a2 a3 : Nat} {P0 P1 P2 P3 : Int} {v : Value} (hv : GEO 148 #[.float .f64 a0, .float .f64 a1, .float .f64 a2, .float .f64 a3] v) (h0 : RV a0 P0) (h1 : RV a1 P1) (h2 : RV a2 P2) (h3 : RV a3 P3) : ∃ r0 r1 r2 r3 : Nat, v = .agg #[.float .f64 r0, .float .f64 r1, .float .f64 r2, .float .f64 r3] ∧ RV r0 (P0) ∧ RV r1 (P1) ∧ RV r2 (opP .sub P2 P0) ∧ RV r3 (opP .sub P3 P1) := by
  obtain ⟨_, rfl⟩ := h0
  obtain ⟨_, rfl⟩ := h1
  obtain ⟨_, rfl⟩ := h2
  obtain ⟨_, rfl⟩ := h3
  exact hv _ _ _ _ rfl
theorem g149 {w0 w : World} {a0 a1 a2 a3 : Nat} {P0 P1 P2 P3 : Int} (h0 : RV a0 P0) (h1 : RV a1 P1) (h2 : RV a2 P2) (h3 : RV a3 P3) (hw : Below w0.heap.size w0 w) : Calls Try.prog 149 #[.float .f64 a0, .float .f64 a1, .float .f64 a2, .float .f64 a3] w fun e w' => ∃ v, e = .returned v ∧ GEO 149 #[.float .f64 a0, .float .f64 a1, .float .f64 a2, .float .f64 a3] v ∧ Below w0.heap.size w0 w' :=
  (k149 (RV.self h0.1) (RV.self h1.1) (RV.self h2.1) (RV.self h3.1) w).mono fun e w' ⟨⟨r0, r1, r2, r3, he, hr⟩, hb⟩ => ⟨_, he, fun ba0 ba1 ba2 ba3 hh => by cases hh; exact ⟨r0, r1, r2, r3, rfl, hr⟩, below_trans hw hb⟩
theorem G149 {a0 a1 a2 a3 : Nat} {P0 P1 P2 P3 : Int} {v : Value} (hv : GEO 149 #[.float .f64 a0, .float .f64 a1, .float .f64 a2, .float .f64 a3] v) (h0 : RV a0 P0) (h1 : RV a1 P1) (h2 : RV a2 P2) (h3 : RV a3 P3) : ∃ r0 r1 r2 r3 : Nat, v = .agg #[.float .f64 r0, .float .f64 r1, .float .f64 r2, .float .f64 r3] ∧ RV r0 (P0) ∧ RV r1 (P1) ∧ RV r2 (opP .sub P2 P0) ∧ RV r3 (opP .sub P3 P1) := by
  obtain ⟨_, rfl⟩ := h0
  obtain ⟨_, rfl⟩ := h1
  obtain ⟨_, rfl⟩ := h2
  obtain ⟨_, rfl⟩ := h3
  exact hv _ _ _ _ rfl

section
variable {P : Program} {ops : Array Oper} {G : FuncId → Array Value → Value → Prop} {Q : Act → Prop} {rest : List Oper} {a : Act}
variable {dst : Option Tmp} {T : TypeId} {pos : String} {af : Array Edge} {gd : Option (Nat × Bool)}
/-- a float's operation in a drawn region: its bits unsaid -/
theorem rel_fop {w0 : World} {op : BinOp} (ho : four op = true) {t t2 : TypeId} {x y : Operand} {p q : Nat} {A B : Int} (hx : a.eval x = .float .f64 p) (hy : a.eval y = .float .f64 q) (hp : RV p A) (hq : RV q B)
    (hw : Region.wanted ⟨dst, .binOp op t x y t2, T, pos, af, gd⟩ (yielded ops a.tmps) = true) (k : ∀ r, RV r (opP op A B) → wpRel P ops (fun w => Below w0.heap.size w0 w) G Q rest (a.put dst (.float .f64 r))) :
    wpRel P ops (fun w => Below w0.heap.size w0 w) G Q (⟨dst, .binOp op t x y t2, T, pos, af, gd⟩ :: rest) a := by
  refine rel_set (R := fun v => ∃ r, v = .float .f64 r ∧ RV r (opP op A B)) hw (fun w hc => ⟨.float .f64 (fop op p q w), w.drewN (fopN op p q), ?_, Bd hc _, ⟨_, rfl, RV.fop op hp hq w⟩⟩) (fun v ⟨r, hv, hr⟩ => by subst hv; exact k r hr)
  have h := run_fop (P := P) op ho t p q w
  have hg : eqGuard op t x y (.float .f64 p) (.float .f64 q) = pure () := by
    cases op <;> first | rfl | (cases ho)
  unfold execOp
  simp only [hx, hy, hg, Sem.run_bind, Sem.run_pure, Result.andThen_ok, h]
/-- a float loaded in a drawn region -/
theorem rel_loadF {C : World → Prop} {x : Operand} (b o r : Nat) (hx : a.eval x = .pointer (some ⟨b, o, none⟩)) (hw : Region.wanted ⟨dst, .load 24 x, T, pos, af, gd⟩ (yielded ops a.tmps) = true)
    (hS : ∀ w, C w → w.cell? ⟨b, 0 + o, none⟩ = some (.float .f64 r)) (k : wpRel Try.prog ops C G Q rest (a.put dst (.float .f64 r))) : wpRel Try.prog ops C G Q (⟨dst, .load 24 x, T, pos, af, gd⟩ :: rest) a :=
  rel_val hw (fun w hc => by
    have h := hS w hc
    rw [Nat.zero_add] at h
    unfold execOp
    simp only [hx]
    go_simp) k
end
theorem wp_gen {P : Program} {c : Code} {Q : Exit → Act → World → Prop} {a : Act} {w : World} (R : World → Prop) (h : R w) (k : ∀ wx, R wx → c.wp P Q a wx) : c.wp P Q a w := k w h
end Go.Proofs.Ytelalledjbeenaa
