/- Between, the program's and the reference's: one place; the walk of MotionBetween. -/
import Derived.Test.YtfpecijiodljoaaGreatDoorEsC
import Derived.Test.YtfpecijiodljoaaGreatDoorArith
import Derived.Below
namespace Go.Proofs.YtfpecijiodljoaaGreatDoor
open Go.RowKit Fl

def RV (r : Nat) (p : Int) : Prop := U r ∧ pl r = p
def RetR (p : Int) (e : Ending) : Prop := ∃ r, e = .returned (.float .f64 r) ∧ RV r p
def ONE : Nat := 4607182418800017408
theorem U_ONE : U 4607182418800017408 := by unfold U; decide
def betP (a b p : Int) : Int :=
  if feqP p (pl 0) then a else if feqP p (pl ONE) then b else opP .add (opP .mul a (opP .sub (pl ONE) p)) (opP .mul b p)
set_option maxRecDepth 100000 in
theorem b11 (a b p : Nat) (w : World) (ha : U a) (hb : U b) (hp : U p) : Calls Tryz.prog 11 #[.float .f64 a, .float .f64 b, .float .f64 p] w fun e w' => RetR (betP (pl a) (pl b) (pl p)) e ∧ ∃ n, w' = w.drewN n := by
  have e0 := f_eq p 0 hp U_0
  have e1 := f_eq p 4607182418800017408 hp U_ONE
  have h1 := fun w => run_fop (P := Tryz.prog) .sub rfl 23 4607182418800017408 p w
  have h2 := fun q w => run_fop (P := Tryz.prog) .mul rfl 23 a q w
  have h3 := fun w => run_fop (P := Tryz.prog) .mul rfl 23 b p w
  have h4 := fun q r w => run_fop (P := Tryz.prog) .add rfl 23 q r w
  have R : Hid (∀ w1 w2 w3 w4 : World, RV (fop .add (fop .mul a (fop .sub 4607182418800017408 p w1) w2) (fop .mul b p w3) w4) (opP .add (opP .mul (pl a) (opP .sub (pl ONE) (pl p))) (opP .mul (pl b) (pl p)))) := Lib.hid fun w1 w2 w3 w4 =>
    ⟨U_fop _ _ _ _, by rw [pl_fop .add _ _ w4 (U_fop _ _ _ _) (U_fop _ _ _ _), pl_fop .mul a _ w2 ha (U_fop _ _ _ _), pl_fop .sub _ p w1 U_ONE hp, pl_fop .mul b p w3 hb hp]; rfl⟩
  have A := Lib.hid ha
  have B := Lib.hid hb
  clear ha hb hp
  cases c0 : feqP (pl p) (pl 0) with
  | true =>
    rw [c0] at e0
    have HR : Hid (RetR (betP (pl a) (pl b) (pl p)) (.returned (.float .f64 a))) := Lib.hid ⟨a, rfl, A.out, by unfold betP; rw [c0, if_pos rfl]⟩
    clear h1 h2 h3 h4 e1 c0
    go_enter Tryz.func11, Tryz.ntmps11
    go_wp2
    go_ret
    exact ⟨HR.out, 0, rfl⟩
  | false =>
  rw [c0] at e0
  cases c1 : feqP (pl p) (pl 4607182418800017408) with
  | true =>
    rw [c1] at e1
    have HR : Hid (RetR (betP (pl a) (pl b) (pl p)) (.returned (.float .f64 b))) := Lib.hid ⟨b, rfl, B.out, by unfold betP ONE; rw [c0, if_neg Bool.false_ne_true, c1, if_pos rfl]⟩
    clear h1 h2 h3 h4 c0 c1
    go_enter Tryz.func11, Tryz.ntmps11
    go_wp2
    go_ret
    exact ⟨HR.out, 0, rfl⟩
  | false =>
    rw [c1] at e1
    have HE : Hid (betP (pl a) (pl b) (pl p) = opP .add (opP .mul (pl a) (opP .sub (pl ONE) (pl p))) (opP .mul (pl b) (pl p))) := Lib.hid (by unfold betP ONE; rw [c0, if_neg Bool.false_ne_true, c1, if_neg Bool.false_ne_true])
    clear c0 c1
    rw [HE.out]
    clear HE
    go_enter Tryz.func11, Tryz.ntmps11
    go_wp2
    go_ret
    exact ⟨⟨_, rfl, R.out _ _ _ _⟩, _, rfl⟩
set_option maxRecDepth 100000 in
theorem b12 (a b p : Nat) (w : World) (ha : U a) (hb : U b) (hp : U p) : Calls Tryz.prog 12 #[.float .f64 a, .float .f64 b, .float .f64 p] w fun e w' => RetR (betP (pl a) (pl b) (pl p)) e ∧ ∃ n, w' = w.drewN n := by
  have e0 := f_eq p 0 hp U_0
  have e1 := f_eq p 4607182418800017408 hp U_ONE
  have h1 := fun w => run_fop (P := Tryz.prog) .sub rfl 23 4607182418800017408 p w
  have h2 := fun q w => run_fop (P := Tryz.prog) .mul rfl 23 a q w
  have h3 := fun w => run_fop (P := Tryz.prog) .mul rfl 23 b p w
  have h4 := fun q r w => run_fop (P := Tryz.prog) .add rfl 23 q r w
  have R : Hid (∀ w1 w2 w3 w4 : World, RV (fop .add (fop .mul a (fop .sub 4607182418800017408 p w1) w2) (fop .mul b p w3) w4) (opP .add (opP .mul (pl a) (opP .sub (pl ONE) (pl p))) (opP .mul (pl b) (pl p)))) := Lib.hid fun w1 w2 w3 w4 =>
    ⟨U_fop _ _ _ _, by rw [pl_fop .add _ _ w4 (U_fop _ _ _ _) (U_fop _ _ _ _), pl_fop .mul a _ w2 ha (U_fop _ _ _ _), pl_fop .sub _ p w1 U_ONE hp, pl_fop .mul b p w3 hb hp]; rfl⟩
  have A := Lib.hid ha
  have B := Lib.hid hb
  clear ha hb hp
  cases c0 : feqP (pl p) (pl 0) with
  | true =>
    rw [c0] at e0
    have HR : Hid (RetR (betP (pl a) (pl b) (pl p)) (.returned (.float .f64 a))) := Lib.hid ⟨a, rfl, A.out, by unfold betP; rw [c0, if_pos rfl]⟩
    clear h1 h2 h3 h4 e1 c0
    go_enter Tryz.func12, Tryz.ntmps12
    go_wp2
    go_ret
    exact ⟨HR.out, 0, rfl⟩
  | false =>
  rw [c0] at e0
  cases c1 : feqP (pl p) (pl 4607182418800017408) with
  | true =>
    rw [c1] at e1
    have HR : Hid (RetR (betP (pl a) (pl b) (pl p)) (.returned (.float .f64 b))) := Lib.hid ⟨b, rfl, B.out, by unfold betP ONE; rw [c0, if_neg Bool.false_ne_true, c1, if_pos rfl]⟩
    clear h1 h2 h3 h4 c0 c1
    go_enter Tryz.func12, Tryz.ntmps12
    go_wp2
    go_ret
    exact ⟨HR.out, 0, rfl⟩
  | false =>
    rw [c1] at e1
    have HE : Hid (betP (pl a) (pl b) (pl p) = opP .add (opP .mul (pl a) (opP .sub (pl ONE) (pl p))) (opP .mul (pl b) (pl p))) := Lib.hid (by unfold betP ONE; rw [c0, if_neg Bool.false_ne_true, c1, if_neg Bool.false_ne_true])
    clear c0 c1
    rw [HE.out]
    clear HE
    go_enter Tryz.func12, Tryz.ntmps12
    go_wp2
    go_ret
    exact ⟨⟨_, rfl, R.out _ _ _ _⟩, _, rfl⟩
theorem bet0 (a b : Int) : betP a b (pl 0) = a := by
  unfold betP; rw [if_pos (by decide)]
theorem bet1 (a b : Int) : betP a b (pl 4607182418800017408) = b := by
  unfold betP ONE; rw [if_neg (by decide), if_pos (by decide)]
theorem Bd {B : Nat} {w w' : World} (h : Below B w w') (n : Nat) : Below B w (w'.drewN n) := ⟨h.os, h.tape, h.output, h.size, h.block⟩
set_option maxRecDepth 100000 in
theorem walkMotionBetween (W : World) (a b p : Nat) (ha : U a) (hb : U b) (hp : U p) : Calls Tryz.prog 4 #[.float .f64 a, .float .f64 b, .float .f64 p] W fun e w' => e = .returned (.bool true) ∧ Below W.heap.size W w' := by
  have A := Lib.hid ha
  have B := Lib.hid hb
  have P := Lib.hid hp
  clear ha hb hp
  go_enter Tryz.func4, Tryz.ntmps4
  go_wp2_with (go_at_call 9; refine (alive_plain.calls _).mono ?_; rintro e w1 ⟨rfl, h1⟩; replace h1 := Lib.hid h1)
  refine (b11 a b p _ A.out B.out P.out).mono ?_
  rintro e w2 ⟨⟨x, rfl, hx⟩, n2, rfl⟩
  have X := Lib.hid hx
  clear hx
  go_wp2_with fail
  refine (b12 a b p _ A.out B.out P.out).mono ?_
  rintro e w3 ⟨⟨y, rfl, hy⟩, n3, rfl⟩
  have Y := Lib.hid hy
  clear hy
  go_wp2_with fail
  refine (c32 x y _ X.out.1 Y.out.1).mono ?_
  rintro e w4 ⟨rfl, rfl⟩
  have e4 : (pl x == pl y) = true := by rw [X.out.2, Y.out.2]; simp
  rw [e4]
  clear e4 X Y
  go_wp2_with fail
  refine (b11 a b 0 _ A.out B.out U_0).mono ?_
  rintro e w2 ⟨⟨x, rfl, hx⟩, n4, rfl⟩
  have X := Lib.hid hx
  clear hx
  go_wp2_with fail
  refine (c32 x a _ X.out.1 A.out).mono ?_
  rintro e w4 ⟨rfl, rfl⟩
  have e4 : (pl x == pl a) = true := by rw [X.out.2, bet0]; simp
  rw [e4]
  clear e4 X
  go_wp2_with fail
  refine (b11 a b 4607182418800017408 _ A.out B.out U_ONE).mono ?_
  rintro e w2 ⟨⟨x, rfl, hx⟩, n5, rfl⟩
  have X := Lib.hid hx
  clear hx
  go_wp2_with fail
  refine (c32 x b _ X.out.1 B.out).mono ?_
  rintro e w4 ⟨rfl, rfl⟩
  have e4 : (pl x == pl b) = true := by rw [X.out.2, bet1]; simp
  rw [e4]
  clear e4 X
  go_wp2_with fail
  go_ret
  exact ⟨rfl, Bd h1.out _⟩
theorem U_of_wf {x : Nat} (h : (Lit.float .f64 x).wf = true) : U x := by
  unfold U; simpa [Lit.wf] using h
theorem walkMotionBetween2 (W : World) (a : Nat) (ha : (Lit.float .f64 a).wf = true) (b : Nat) (hb : (Lit.float .f64 b).wf = true) (p : Nat) (hp : (Lit.float .f64 p).wf = true) : Calls Tryz.prog 4 #[.float .f64 a, .float .f64 b, .float .f64 p] W fun e w' => e = .returned (.bool true) ∧ Below W.heap.size W w' :=
  walkMotionBetween W a b p (U_of_wf ha) (U_of_wf hb) (U_of_wf hp)
end Go.Proofs.YtfpecijiodljoaaGreatDoor
