/- The square root, Turn. -/
import Derived.Test.YtelalledjbeenaaGeoJ
import Derived.Laws.Externs
namespace Go.Proofs.Ytelalledjbeenaa
open Go.RowKit Fl

/-- the place of a square root -/
def sqrtP (p : Int) : Int := match FloatKind.f64.format.sqrt (atW p) with | some r => pl r | none => 9223372036854775807
theorem sqrt_nan (x : Nat) (hx : U x) (hn : isN x = true) : FloatKind.f64.format.sqrt x = none := by
  show Ieee.double.sqrt x = none
  unfold Ieee.Format.sqrt
  rw [read_nan x hx.lt hn]; rfl
theorem U_sqrt (x r : Nat) (h : FloatKind.f64.format.sqrt x = some r) : U r := by
  have h : Ieee.double.sqrt x = some r := h
  unfold Ieee.Format.sqrt at h
  rw [Option.map_eq_some_iff] at h
  obtain ⟨d, _, rfl⟩ := h
  exact Ieee.Format.write_lt _ _
def onRoot (x : Nat) (o : Option Nat) : Sem Value := match o with | some r => pure (.float .f64 r) | none => do pure (.float .f64 (← choose (.nanBits .f64 x x)))
theorem onRoot_eq (x : Nat) : Extern.MathSqrt.sqrt #[.float .f64 x] = onRoot x (FloatKind.f64.format.sqrt x) := rfl
theorem x183 (x : Nat) (w : World) (hx : U x) : ∃ r n, (callFunc 183 #[.float .f64 x]).run Try.prog w = .ok (.value (.float .f64 r)) (w.drewN n) ∧ RV r (sqrtP (pl x)) := by
  rw [run_callFunc_extern (P := Try.prog) (f := 183) (fn := Try.f183) (e := Extern.MathSqrt.sqrt) (by kernel_rfl) (by kernel_rfl) (by kernel_rfl) (by kernel_rfl) (by kernel_rfl)]
  rw [onRoot_eq]
  unfold sqrtP
  by_cases hn : isN x = true
  · have h1 := sqrt_nan x hx hn
    have h2 := sqrt_nan _ U_atN isN_atW
    rw [pl_nan hn]
    unfold NP
    rw [h1, h2]
    exact ⟨(Question.nanBits .f64 x x).cut (w.tape w.drawn (Question.nanBits .f64 x x)), 1, rfl, (nanBits_cut _ _ _).1, pl_nan (nanBits_cut _ _ _).2⟩
  · have hn := Bool.eq_false_iff.2 hn
    rw [atW_pl x hx hn]
    cases h : FloatKind.f64.format.sqrt x with
    | some r =>
      exact ⟨r, 0, rfl, U_sqrt x r h, rfl⟩
    | none =>
      exact ⟨(Question.nanBits .f64 x x).cut (w.tape w.drawn (Question.nanBits .f64 x x)), 1, rfl, (nanBits_cut _ _ _).1, pl_nan (nanBits_cut _ _ _).2⟩
set_option maxRecDepth 100000 in
theorem k155 {x : Nat} {P : Int} (hx : RV x P) (w : World) : Calls Try.prog 155 #[.float .f64 x] w fun e w' => RetR (sqrtP P) e ∧ ∃ n, w' = w.drewN n := by
  obtain ⟨r, n, h, hr⟩ := x183 x w hx.1
  have HR : Hid (RV r (sqrtP P)) := Lib.hid (by rw [← hx.2]; exact hr)
  clear hr hx
  go_enter Try.func155, Try.ntmps155
  go_wp2
  go_ret
  exact ⟨⟨r, rfl, HR.out⟩, n, rfl⟩
end Go.Proofs.Ytelalledjbeenaa
