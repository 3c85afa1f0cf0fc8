/- Words and their places in walks; math.Floor, IsInf, NaN. -/
import Derived.Test.YtlgencbldbpbdaaGreatDoorMgEaQ
import Derived.Test.YtlgencbldbpbdaaGreatDoorMgLen
namespace Go.Proofs.YtlgencbldbpbdaaGreatDoor
open Go.RowKit Fl
def RV (r : Nat) (p : Int) : Prop := U r ∧ pl r = p
theorem RV.self {x : Nat} (h : U x) : RV x (pl x) := ⟨h, rfl⟩
theorem RV.fop {x y : Nat} {P Q : Int} (op : BinOp) (hx : RV x P) (hy : RV y Q) (w : World) : RV (fop op x y w) (opP op P Q) := ⟨U_fop _ _ _ _, by rw [pl_fop op x y w hx.1 hy.1, hx.2, hy.2]⟩
theorem RV.lt {x y : Nat} {P Q : Int} (hx : RV x P) (hy : RV y Q) : (FloatKind.f64.format.order x y == some Ordering.lt) = fltP P Q := by rw [f_lt x y hx.1 hy.1, hx.2, hy.2]
theorem RV.gt {x y : Nat} {P Q : Int} (hx : RV x P) (hy : RV y Q) : (FloatKind.f64.format.order x y == some Ordering.gt) = fltP Q P := by rw [f_gt x y hx.1 hy.1, hx.2, hy.2]
theorem RV.le {x y : Nat} {P Q : Int} (hx : RV x P) (hy : RV y Q) : (FloatKind.f64.format.order x y == some Ordering.lt || FloatKind.f64.format.order x y == some Ordering.eq) = fleP P Q := by rw [f_le x y hx.1 hy.1, hx.2, hy.2]
theorem RV.ge {x y : Nat} {P Q : Int} (hx : RV x P) (hy : RV y Q) : (FloatKind.f64.format.order x y == some Ordering.gt || FloatKind.f64.format.order x y == some Ordering.eq) = fleP Q P := by rw [f_ge x y hx.1 hy.1, hx.2, hy.2]
theorem RV.eq_ {x y : Nat} {P Q : Int} (hx : RV x P) (hy : RV y Q) : (FloatKind.f64.format.order x y == some Ordering.eq) = feqP P Q := by rw [f_eq x y hx.1 hy.1, hx.2, hy.2]
def RetR (p : Int) (e : Ending) : Prop := ∃ r, e = .returned (.float .f64 r) ∧ RV r p
theorem fz_RV (z : Int) : RV (fz z) (iP z) := ⟨fz_U z, rfl⟩
theorem one_RV : RV 4607182418800017408 (iP 1) := ⟨by unfold U; decide, by decide +kernel⟩
theorem zero_RV : RV 0 0 := ⟨by unfold U; decide, by decide⟩
theorem x136 (x : Nat) (w : World) (hx : U x) : ∃ r n, (callFunc 136 #[.float .f64 x]).run Tryz.prog w = .ok (.value (.float .f64 r)) (w.drewN n) ∧ RV r (flP (pl x)) := by
 by_cases hf : fin x = true
 ·refine ⟨flW x, 0, x72 x w hx hf, by unfold flW; exact U_word _ _ (rnd_lt _), ?_⟩
  have hn := fin_not_nan hf
  have h := fin_true hf
  unfold flP
  rw [if_neg, atW_pl x hx hn]
  intro c
  cases hs : sg x
  ·rw [pl_pos hn hs] at c; unfold INF at h; omega
  ·rw [pl_neg hn hs] at c; unfold INF at h; omega
 ·rw [run_callFunc_extern (P := Tryz.prog) (f := 136) (fn := Tryz.f136) (e := Extern.MathFloor.toIntegral "math.archFloor" .down) (by kernel_rfl) (by kernel_rfl) (by kernel_rfl) (by kernel_rfl) (by kernel_rfl)]
  rw [onDown_eq]
  by_cases hn : isN x = true
  ·have e := read_nan x hx.lt hn
   have hP : flP (pl x) = 9223372036854775807 := by rw [pl_nan hn]; unfold flP NP; rw [if_pos (.inl rfl)]
   rw [e, hP]
   dsimp only [onDown]
   by_cases hq : FloatKind.f64.format.quiet (rg x - INF) = rg x - INF
   ·rw [if_pos hq]
    exact ⟨x, 0, rfl, hx, pl_nan hn⟩
   ·rw [if_neg hq]
    have hU : U (FloatKind.f64.encode (.nan (sg x) (FloatKind.f64.format.quiet (rg x - INF)))) := Ieee.Format.write_lt _ _
    have hN : isN (FloatKind.f64.encode (.nan (sg x) (FloatKind.f64.format.quiet (rg x - INF)))) = true := by
     show isN (Ieee.double.word (sg x) (Ieee.double.infRung + Ieee.double.quiet (rg x - INF) % Ieee.double.binade)) = true
     rw [word_eq, d_inf, d_binade]
     have h1 : Ieee.double.quiet (rg x - INF) % 4503599627370496 = (rg x - INF) % 4503599627370496 ||| 2251799813685248 := by
      show ((rg x - INF) ||| 2 ^ 51) % 2 ^ 52 = _
      rw [Nat.or_mod_two_pow]
     have h2 : 0 < Ieee.double.quiet (rg x - INF) % 4503599627370496 := by
      rw [h1]
      have : 2251799813685248 ≤ (rg x - INF) % 4503599627370496 ||| 2251799813685248 := Nat.right_le_or
      omega
     have h3 : Ieee.double.quiet (rg x - INF) % 4503599627370496 < 4503599627370496 := Nat.mod_lt _ (by decide)
     unfold isN
     rw [rg_word _ _ (by unfold INF; omega)]
     exact decide_eq_true (by omega)
    rw [Sem.run_bind', run_choose_drew]
    rw [if_neg (by simp [Question.forced])]
    simp only [Result.andThen]
    refine ⟨_, 1, rfl, ?_, ?_⟩
    ·split
     ·exact hx
     ·exact hU
    ·split
     ·exact pl_nan hn
     ·exact pl_nan hN
  ·have hn' : isN x = false := by simpa using hn
   have h1 := fin_false (by simpa using hf : fin x = false)
   have h2 := isN_false hn'
   have e := read_inf x hx.lt (by omega)
   have h3 := d_write_read x hx.lt hn'
   rw [e] at h3
   refine ⟨x, 0, ?_, hx, ?_⟩
   ·have h4 : FloatKind.f64.encode (Ieee.Datum.integral .down (.infinity (sg x))) = x := h3
    have key : (onDown x (.infinity (sg x))).run Tryz.prog w = .ok (.float .f64 x) w := by
     show Result.ok (Value.float .f64 (FloatKind.f64.encode (Ieee.Datum.integral .down (.infinity (sg x))))) w = _
     rw [h4]
    rw [e, key]; rfl
   ·unfold flP
    rw [if_pos]
    have hr : rg x = INF := by omega
    unfold INF at hr
    cases hs : sg x
    ·rw [pl_pos hn' hs]; omega
    ·rw [pl_neg hn' hs]; omega
set_option maxRecDepth 100000 in
theorem eFloor {x : Nat} {p : Int} (h : RV x p) (w : World) : Calls Tryz.prog 81 #[.float .f64 x] w fun e w' => RetR (flP p) e ∧ ∃ n, w' = w.drewN n := by
 obtain ⟨hx, rfl⟩ := h
 obtain ⟨r, n, h1, hr⟩ := x136 x w hx
 have H := Lib.hid hr
 clear hr
 go_enter Tryz.func81, Tryz.ntmps81
 go_wp2
 go_ret
 exact ⟨⟨r, rfl, H.out⟩, n, rfl⟩
end Go.Proofs.YtlgencbldbpbdaaGreatDoor
