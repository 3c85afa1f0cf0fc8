/- RoundToEven, Whole; what draws leave alone. -/
import Derived.Test.YtelalledjbeenaaBits
namespace Go.Proofs.Ytelalledjbeenaa
open Go.RowKit Fl

theorem Bdrew {B : Nat} {a w : World} (h : Below B a w) : Below B a w.drew := ⟨h.os, h.tape, h.output, h.size, h.block⟩

/-- of a number: the nearest whole one; an infinity as it is -/
def wh (x : Nat) : Nat := if fin x then whole x else x
/-- how the model's rounding goes on, by what the word stands for -/
def onDatum (x : Nat) : Ieee.Datum → Sem Value
  | .nan s t => if FloatKind.f64.format.quiet t = t then pure (.float .f64 x) else
    (choose (.extern "math.Floor,Ceil,Trunc,RoundToEven.signallingNaN kept" 2)).bind fun k => pure (.float .f64 (if k == 1 then x else FloatKind.f64.encode (.nan s (FloatKind.f64.format.quiet t))))
  | d => pure (.float .f64 (FloatKind.f64.encode (d.integral .even)))
theorem onDatum_eq (x : Nat) : Extern.MathFloor.toIntegral "math.RoundToEven" .even #[.float .f64 x] = onDatum x (Ieee.double.read x) := rfl
theorem x146n (x : Nat) (w : World) (hx : U x) (hn : isN x = false) : (callFunc 146 #[.float .f64 x]).run Try.prog w = .ok (.value (.float .f64 (wh x))) w := by
  rw [run_callFunc_extern (P := Try.prog) (f := 146) (fn := Try.f146) (e := Extern.MathFloor.toIntegral "math.RoundToEven" .even) (by kernel_rfl) (by kernel_rfl) (by kernel_rfl) (by kernel_rfl) (by kernel_rfl)]
  have key : (Extern.MathFloor.toIntegral "math.RoundToEven" .even #[.float .f64 x]).run Try.prog w = .ok (.float .f64 (wh x)) w := by
    rw [onDatum_eq]
    by_cases hf : fin x = true
    · have hr := read_integral x hx.lt hf
      obtain ⟨m, j, e, v⟩ := read_fin x hx.lt hf
      unfold wh
      rw [if_pos hf, ← hr, e]
      rfl
    · have hf' := fin_false (by simpa using hf)
      have hi := isN_false hn
      have e := read_inf x hx.lt (by omega)
      unfold wh
      rw [if_neg hf, e]
      have h2 := d_write_read x hx.lt hn
      rw [e] at h2
      have h3 : FloatKind.f64.encode (Ieee.Datum.integral .even (.infinity (sg x))) = x := h2
      show Result.ok (Value.float .f64 (FloatKind.f64.encode (Ieee.Datum.integral .even (.infinity (sg x))))) w = _
      rw [h3]
  rw [key]; rfl
theorem x146a (x : Nat) (w : World) (hx : U x) (hn : isN x = true) : ∃ r w', (callFunc 146 #[.float .f64 x]).run Try.prog w = .ok (.value (.float .f64 r)) w' ∧ U r ∧ isN r = true ∧ (∃ n, w' = w.drewN n) := by
  rw [run_callFunc_extern (P := Try.prog) (f := 146) (fn := Try.f146) (e := Extern.MathFloor.toIntegral "math.RoundToEven" .even) (by kernel_rfl) (by kernel_rfl) (by kernel_rfl) (by kernel_rfl) (by kernel_rfl)]
  have e := read_nan x hx.lt hn
  rw [onDatum_eq, e]
  dsimp only [onDatum]
  by_cases hq : FloatKind.f64.format.quiet (rg x - INF) = rg x - INF
  · rw [if_pos hq]
    exact ⟨x, w, rfl, hx, hn, 0, rfl⟩
  · rw [if_neg hq]
    have hU : U (FloatKind.f64.encode (.nan (sg x) (FloatKind.f64.format.quiet (rg x - INF)))) := Ieee.Format.write_lt _ _
    have hN : isN (FloatKind.f64.encode (.nan (sg x) (FloatKind.f64.format.quiet (rg x - INF)))) = true := by
      show isN (Ieee.double.word (sg x) (Ieee.double.infRung + Ieee.double.quiet (rg x - INF) % Ieee.double.binade)) = true
      rw [word_eq, d_inf, d_binade]
      have h1 : Ieee.double.quiet (rg x - INF) % 4503599627370496 = (rg x - INF) % 4503599627370496 ||| 2251799813685248 := by
        show ((rg x - INF) ||| 2 ^ 51) % 2 ^ 52 = _
        rw [Nat.or_mod_two_pow]
      have h2 : 0 < Ieee.double.quiet (rg x - INF) % 4503599627370496 := by
        rw [h1]
        have : 2251799813685248 ≤ (rg x - INF) % 4503599627370496 ||| 2251799813685248 := Nat.right_le_or
        omega
      have h3 : Ieee.double.quiet (rg x - INF) % 4503599627370496 < 4503599627370496 := Nat.mod_lt _ (by decide)
      unfold isN
      rw [rg_word _ _ (by unfold INF; omega)]
      exact decide_eq_true (by omega)
    rw [Sem.run_bind', run_choose_drew]
    rw [if_neg (by simp [Question.forced])]
    simp only [Result.andThen]
    refine ⟨_, _, rfl, ?_, ?_, 1, rfl⟩
    · split
      · exact hx
      · exact hU
    · split
      · exact hn
      · exact hN

set_option maxRecDepth 100000 in
theorem c43n (x : Nat) (w : World) (hx : U x) (hn : isN x = false) : Calls Try.prog 43 #[.float .f64 x] w fun e w' => e = .returned (.float .f64 (wh x)) ∧ w = w' := by
  have h1 := fun w => x146n x w hx hn
  go_enter Try.func43, Try.ntmps43
  go_wp2
  go_ret
  exact ⟨rfl, rfl⟩
set_option maxRecDepth 100000 in
theorem c43a (x : Nat) (w : World) (hx : U x) (hn : isN x = true) : Calls Try.prog 43 #[.float .f64 x] w fun e w' => RetF 9223372036854775807 e ∧ ∃ n, w' = w.drewN n := by
  obtain ⟨r, w', h1, hr, hnr, n, hw⟩ := x146a x w hx hn
  subst hw
  have H := Lib.hid (pl_nan hnr)
  go_enter Try.func43, Try.ntmps43
  go_wp2
  go_ret
  exact ⟨retF hr H.out, n, rfl⟩
theorem U_wh (x : Nat) (hx : U x) : U (wh x) := by
  unfold wh; split
  · unfold whole; exact U_word _ _ (rnd_lt _)
  · exact hx
theorem isN_wh (x : Nat) (hn : isN x = false) : isN (wh x) = false := by
  unfold wh; split
  · rename_i h; exact fin_not_nan (fin_whole x h)
  · exact hn
theorem wh_wh (x : Nat) : wh (wh x) = wh x := by
  by_cases h : fin x = true
  · have e : wh x = whole x := by unfold wh; rw [if_pos h]
    rw [e]; unfold wh; rw [if_pos (fin_whole x h), whole_whole x h]
  · have e : wh x = x := by unfold wh; rw [if_neg h]
    rw [e, e]
end Go.Proofs.Ytelalledjbeenaa
