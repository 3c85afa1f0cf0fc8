/- binary32: Wide, Narrow of Wide, same32. RoundToEven, Whole; what draws leave alone. -/
import Derived.Test.YtelalledjbeenaaBits
import Derived.Test.YtelalledjbeenaaMgArith
import Derived.Laws.NewFold
namespace Go.Proofs.Ytelalledjbeenaa
open Go.RowKit Fl

def U32 (x : Nat) : Prop := x < 4294967296
theorem U32.lt {x : Nat} (h : U32 x) : x < 4294967296 := h

theorem und24 : Try.prog.underlying 24 = some (.float .f64) := Try.underlying24
theorem und50 : Try.prog.underlying 50 = some (.float .f32) := Try.underlying50

theorem nan64_cut (k y t : Nat) (q : Question) (hq : q = .nanConv .f64 y ∨ q = .nanBits .f64 y k) : U (q.cut t) ∧ isN (q.cut t) = true := by
  have e : q.cut t = (t % 2) * 2 ^ 63 + 0x7ff0000000000000 + 1 + (t / 2) % (2 ^ 52 - 1) := by rcases hq with h | h <;> subst h <;> rfl
  rw [e]
  have h1 : (t / 2) % (2 ^ 52 - 1) < 4503599627370495 := Nat.mod_lt _ (by decide)
  generalize (t / 2) % (2 ^ 52 - 1) = a at *
  have h2 : t % 2 < 2 := Nat.mod_lt _ (by decide)
  generalize t % 2 = b at *
  refine ⟨by unfold U; omega, ?_⟩
  unfold isN rg INF
  exact decide_eq_true (by omega)
theorem nan32_cut (y t : Nat) (q : Question) (hq : q = .nanConv .f32 y) : U32 (q.cut t) ∧ isN32 (q.cut t) = true := by
  have e : q.cut t = (t % 2) * 2 ^ 31 + 0x7f800000 + 1 + (t / 2) % (2 ^ 23 - 1) := by subst hq; rfl
  rw [e]
  have h1 : (t / 2) % (2 ^ 23 - 1) < 8388607 := Nat.mod_lt _ (by decide)
  generalize (t / 2) % (2 ^ 23 - 1) = a at *
  have h2 : t % 2 < 2 := Nat.mod_lt _ (by decide)
  generalize t % 2 = b at *
  refine ⟨by unfold U32; omega, ?_⟩
  unfold isN32 rg32
  exact decide_eq_true (by omega)

theorem conv_nan (s d : FloatKind) (ts td : TypeId) (y : Nat) (w : World) (hs : Try.prog.underlying ts = some (.float s)) (hd : Try.prog.underlying td = some (.float d)) (hne : s ≠ d) (hn : (s.decode y).isNaN = true) :
    (convert ts td (.float s y)).run Try.prog w = .ok (.float d ((Question.nanConv d y).cut (w.tape w.drawn (Question.nanConv d y)))) w.drew := by
  have h1 : convert ts td (.float s y) = convert ts td (.float s y) := rfl
  cases hdec : s.decode y with
  | nan a b => simp [convert, run_underlying hs, run_underlying hd, Conv.floatToFloat, hne, hdec, Question.forced]
  | number a b c => rw [hdec] at hn; cases hn
  | infinity a => rw [hdec] at hn; cases hn

theorem wide_some (y : Nat) (h : U32 y) (hn : isN32 y = false) : floatToFloatBits .f32 y .f64 = some (wide y) ∧ floatToFloatBits .f64 (wide y) .f32 = some y ∧ U (wide y) ∧ isN (wide y) = false := by
  have hn' := of_decide_eq_false hn
  by_cases hf : rg32 y < 2139095040
  · obtain ⟨h1, h2, h3, s, m, p, h4⟩ := narrow_wide_fin y h hf
    obtain ⟨m', j', e, hv, _⟩ := read32_fin y h hf
    refine ⟨?_, ?_, h3, fin_not_nan h2⟩
    · unfold floatToFloatBits
      rw [if_neg (by decide)]
      have d1 : FloatKind.f32.decode y = .number (sg32 y) m' (-149 + (j' : Int)) := e
      rw [d1]
      have d2 : FloatKind.f64.encode (.number (sg32 y) m' (-149 + (j' : Int))) = wide y := by
        show Ieee.double.write _ = _
        unfold wide; rw [e]
      have d3 : FloatKind.f64.decode (wide y) = .number s m p := h4
      simp only [d2, d3, Ieee.Datum.isInfinity, Bool.false_eq_true, if_false]
    · unfold floatToFloatBits
      rw [if_neg (by decide)]
      have d3 : FloatKind.f64.decode (wide y) = .number s m p := h4
      rw [d3]
      have d2 : FloatKind.f32.encode (.number s m p) = y := by
        show Ieee.single.write _ = _
        rw [← h4]; exact h1
      have d4 : FloatKind.f32.decode y = .number (sg32 y) m' (-149 + (j' : Int)) := e
      simp only [d2, d4, Ieee.Datum.isInfinity, Bool.false_eq_true, if_false]
  · have hi : rg32 y = 2139095040 := by omega
    have e := read32_inf y h hi
    have ew : wide y = word (sg32 y) INF := by
      unfold wide; rw [e]
      show Ieee.double.word _ _ = _
      rw [word_eq, d_inf]
    have hu : U (wide y) := by rw [ew]; exact U_word _ _ (by decide)
    have hr : rg (wide y) = INF := by rw [ew, rg_word _ _ (by decide)]
    have hs : sg (wide y) = sg32 y := by rw [ew, sg_word _ _ (by decide)]
    refine ⟨?_, ?_, hu, by unfold isN; rw [hr]; decide⟩
    · unfold floatToFloatBits
      rw [if_neg (by decide)]
      have d1 : FloatKind.f32.decode y = .infinity (sg32 y) := e
      rw [d1]
      show some (Ieee.double.write (.infinity (sg32 y))) = _
      unfold wide; rw [e]
    · unfold floatToFloatBits
      rw [if_neg (by decide)]
      have d1 : FloatKind.f64.decode (wide y) = .infinity (sg32 y) := by
        show Ieee.double.read _ = _
        rw [read_inf _ hu hr, hs]
      rw [d1]
      show some (Ieee.single.word (sg32 y) Ieee.single.infRung) = _
      rw [s_inf, ← hi, word32_self y h]

set_option maxRecDepth 100000 in
theorem c42n (y : Nat) (w : World) (h : U32 y) (hn : isN32 y = false) : Calls Try.prog 42 #[.float .f32 y] w fun e w' => e = .returned (.float .f64 (wide y)) ∧ w = w' := by
  have hc := fun w => run_convert_float_float (P := Try.prog) w 50 24 .f32 .f64 y _ (by rw [und50]; rfl) und24 (wide_some y h hn).1
  go_enter Try.func42, Try.ntmps42
  go_wp2
  go_ret
  exact ⟨rfl, rfl⟩
set_option maxRecDepth 100000 in
theorem c41n (y : Nat) (w : World) (h : U32 y) (hn : isN32 y = false) : Calls Try.prog 41 #[.float .f64 (wide y)] w fun e w' => e = .returned (.float .f32 y) ∧ w = w' := by
  have hc := fun w => run_convert_float_float (P := Try.prog) w 24 50 .f64 .f32 (wide y) _ (by rw [und24]; rfl) und50 (wide_some y h hn).2.1
  go_enter Try.func41, Try.ntmps41
  go_wp2
  go_ret
  exact ⟨rfl, rfl⟩
set_option maxRecDepth 100000 in
theorem c42a (y : Nat) (w : World) (h : U32 y) (hn : isN32 y = true) : Calls Try.prog 42 #[.float .f32 y] w fun e w' => RetF 9223372036854775807 e ∧ ∃ n, w' = w.drewN n := by
  have hd : (FloatKind.f32.decode y).isNaN = true := by
    show (Ieee.single.read y).isNaN = true
    rw [read32_nan y h hn]; rfl
  have hc := fun w => conv_nan .f32 .f64 50 24 y w und50 und24 (by decide) hd
  obtain ⟨h1, h2⟩ := nan64_cut 0 y (w.tape w.drawn (Question.nanConv .f64 y)) _ (.inl rfl)
  have H1 := Lib.hid h1
  have H2 := Lib.hid (pl_nan h2)
  clear hd h1 h2
  go_enter Try.func42, Try.ntmps42
  go_wp2
  go_ret
  exact ⟨retF H1.out H2.out, 1, rfl⟩
def RetN32 (e : Ending) : Prop := ∃ r, e = .returned (.float .f32 r) ∧ U32 r ∧ isN32 r = true
set_option maxRecDepth 100000 in
theorem c41a (x : Nat) (w : World) (h : U x) (hn : isN x = true) : Calls Try.prog 41 #[.float .f64 x] w fun e w' => RetN32 e ∧ ∃ n, w' = w.drewN n := by
  have hd : (FloatKind.f64.decode x).isNaN = true := by
    show (Ieee.double.read x).isNaN = true
    rw [read_nan x h hn]; rfl
  have hc := fun w => conv_nan .f64 .f32 24 50 x w und24 und50 (by decide) hd
  obtain ⟨h1, h2⟩ := nan32_cut x (w.tape w.drawn (Question.nanConv .f32 x)) _ rfl
  have H : RetN32 (.returned (.float .f32 ((Question.nanConv .f32 x).cut (w.tape w.drawn (Question.nanConv .f32 x))))) := ⟨_, rfl, h1, h2⟩
  have H1 := Lib.hid H
  clear hd h1 h2 H
  go_enter Try.func41, Try.ntmps41
  go_wp2
  go_ret
  exact ⟨H1.out, 1, rfl⟩

theorem neq_self32 (x : Nat) (h : U32 x) : (FloatKind.f32.format.order x x != some Ordering.eq) = isN32 x := by
  show (Ieee.single.order x x != some Ordering.eq) = _
  rw [order_self]
  cases hn : isN32 x
  · have hn' := of_decide_eq_false hn
    by_cases hf : rg32 x < 2139095040
    · obtain ⟨m, j, e, _⟩ := read32_fin x h hf
      rw [e]; rfl
    · rw [read32_inf x h (by omega)]; rfl
  · rw [read32_nan x h hn]; rfl
theorem b_mag32 (x : Nat) (h : U32 x) : bits .andNot .u32 (x : Int) 2147483648 = (rg32 x : Int) := by
  have := h.lt
  rw [show (2147483648 : Int) = ((2147483648 : Nat) : Int) from rfl, u32_andNot_nat _ _ h.lt (by omega)]
  congr 1
  exact Nat.and_two_pow_sub_one_eq_mod x 31
set_option maxRecDepth 100000 in
theorem c45 (x b : Nat) (w : World) (hx : U32 x) (hb : U32 b) : Calls Try.prog 45 #[.float .f32 x, .int .u32 b] w fun e w' => e = .returned (.bool ((x == b) || (isN32 x && isN32 b))) ∧ w = w' := by
  have e1 := neq_self32 x hx
  have e2 := b_mag32 b hb
  have e3 : ((x : Int) == (b : Int)) = (x == b) := by rw [Bool.eq_iff_iff]; simp; omega
  have e4 : decide ((2139095040 : Int) < (rg32 b : Int)) = isN32 b := by unfold isN32; rw [Bool.eq_iff_iff]; simp; omega
  cases h1 : (x == b) <;> cases h2 : isN32 x <;> cases h3 : isN32 b
  all_goals
    rw [h2] at e1
    rw [h3] at e4
    rw [h1] at e3
    clear h1 h2 h3
    go_enter Try.func45, Try.ntmps45
    go_wp2
    go_ret
    exact ⟨rfl, rfl⟩
end Go.Proofs.Ytelalledjbeenaa

namespace Go.Proofs.Ytelalledjbeenaa
open Go.RowKit Fl

theorem Bdrew {B : Nat} {a w : World} (h : Below B a w) : Below B a w.drew := ⟨h.os, h.tape, h.output, h.size, h.block⟩

/-- of a number: the nearest whole one; an infinity as it is -/
def wh (x : Nat) : Nat := if fin x then whole x else x
/-- how the model's rounding goes on, by what the word stands for -/
def onDatum (x : Nat) : Ieee.Datum → Sem Value
  | .nan s t => if FloatKind.f64.format.quiet t = t then pure (.float .f64 x) else
    (choose (.extern "math.Floor,Ceil,Trunc,RoundToEven.signallingNaN kept" 2)).bind fun k => pure (.float .f64 (if k == 1 then x else FloatKind.f64.encode (.nan s (FloatKind.f64.format.quiet t))))
  | d => pure (.float .f64 (FloatKind.f64.encode (d.integral .even)))
theorem onDatum_eq (x : Nat) : Extern.MathFloor.toIntegral "math.RoundToEven" .even #[.float .f64 x] = onDatum x (Ieee.double.read x) := rfl
theorem x146n (x : Nat) (w : World) (hx : U x) (hn : isN x = false) : (callFunc 146 #[.float .f64 x]).run Try.prog w = .ok (.value (.float .f64 (wh x))) w := by
  rw [run_callFunc_extern (P := Try.prog) (f := 146) (fn := Try.f146) (e := Extern.MathFloor.toIntegral "math.RoundToEven" .even) (by kernel_rfl) (by kernel_rfl) (by kernel_rfl) (by kernel_rfl) (by kernel_rfl)]
  have key : (Extern.MathFloor.toIntegral "math.RoundToEven" .even #[.float .f64 x]).run Try.prog w = .ok (.float .f64 (wh x)) w := by
    rw [onDatum_eq]
    by_cases hf : fin x = true
    · have hr := read_integral x hx.lt hf
      obtain ⟨m, j, e, v⟩ := read_fin x hx.lt hf
      unfold wh
      rw [if_pos hf, ← hr, e]
      rfl
    · have hf' := fin_false (by simpa using hf)
      have hi := isN_false hn
      have e := read_inf x hx.lt (by omega)
      unfold wh
      rw [if_neg hf, e]
      have h2 := d_write_read x hx.lt hn
      rw [e] at h2
      have h3 : FloatKind.f64.encode (Ieee.Datum.integral .even (.infinity (sg x))) = x := h2
      show Result.ok (Value.float .f64 (FloatKind.f64.encode (Ieee.Datum.integral .even (.infinity (sg x))))) w = _
      rw [h3]
  rw [key]; rfl
theorem x146a (x : Nat) (w : World) (hx : U x) (hn : isN x = true) : ∃ r w', (callFunc 146 #[.float .f64 x]).run Try.prog w = .ok (.value (.float .f64 r)) w' ∧ U r ∧ isN r = true ∧ (∃ n, w' = w.drewN n) := by
  rw [run_callFunc_extern (P := Try.prog) (f := 146) (fn := Try.f146) (e := Extern.MathFloor.toIntegral "math.RoundToEven" .even) (by kernel_rfl) (by kernel_rfl) (by kernel_rfl) (by kernel_rfl) (by kernel_rfl)]
  have e := read_nan x hx.lt hn
  rw [onDatum_eq, e]
  dsimp only [onDatum]
  by_cases hq : FloatKind.f64.format.quiet (rg x - INF) = rg x - INF
  · rw [if_pos hq]
    exact ⟨x, w, rfl, hx, hn, 0, rfl⟩
  · rw [if_neg hq]
    have hU : U (FloatKind.f64.encode (.nan (sg x) (FloatKind.f64.format.quiet (rg x - INF)))) := Ieee.Format.write_lt _ _
    have hN : isN (FloatKind.f64.encode (.nan (sg x) (FloatKind.f64.format.quiet (rg x - INF)))) = true := by
      show isN (Ieee.double.word (sg x) (Ieee.double.infRung + Ieee.double.quiet (rg x - INF) % Ieee.double.binade)) = true
      rw [word_eq, d_inf, d_binade]
      have h1 : Ieee.double.quiet (rg x - INF) % 4503599627370496 = (rg x - INF) % 4503599627370496 ||| 2251799813685248 := by
        show ((rg x - INF) ||| 2 ^ 51) % 2 ^ 52 = _
        rw [Nat.or_mod_two_pow]
      have h2 : 0 < Ieee.double.quiet (rg x - INF) % 4503599627370496 := by
        rw [h1]
        have : 2251799813685248 ≤ (rg x - INF) % 4503599627370496 ||| 2251799813685248 := Nat.right_le_or
        omega
      have h3 : Ieee.double.quiet (rg x - INF) % 4503599627370496 < 4503599627370496 := Nat.mod_lt _ (by decide)
      unfold isN
      rw [rg_word _ _ (by unfold INF; omega)]
      exact decide_eq_true (by omega)
    rw [Sem.run_bind', run_choose_drew]
    rw [if_neg (by simp [Question.forced])]
    simp only [Result.andThen]
    refine ⟨_, _, rfl, ?_, ?_, 1, rfl⟩
    · split
      · exact hx
      · exact hU
    · split
      · exact hn
      · exact hN

set_option maxRecDepth 100000 in
theorem c43n (x : Nat) (w : World) (hx : U x) (hn : isN x = false) : Calls Try.prog 43 #[.float .f64 x] w fun e w' => e = .returned (.float .f64 (wh x)) ∧ w = w' := by
  have h1 := fun w => x146n x w hx hn
  go_enter Try.func43, Try.ntmps43
  go_wp2
  go_ret
  exact ⟨rfl, rfl⟩
set_option maxRecDepth 100000 in
theorem c43a (x : Nat) (w : World) (hx : U x) (hn : isN x = true) : Calls Try.prog 43 #[.float .f64 x] w fun e w' => RetF 9223372036854775807 e ∧ ∃ n, w' = w.drewN n := by
  obtain ⟨r, w', h1, hr, hnr, n, hw⟩ := x146a x w hx hn
  subst hw
  have H := Lib.hid (pl_nan hnr)
  go_enter Try.func43, Try.ntmps43
  go_wp2
  go_ret
  exact ⟨retF hr H.out, n, rfl⟩
theorem U_wh (x : Nat) (hx : U x) : U (wh x) := by
  unfold wh; split
  · unfold whole; exact U_word _ _ (rnd_lt _)
  · exact hx
theorem isN_wh (x : Nat) (hn : isN x = false) : isN (wh x) = false := by
  unfold wh; split
  · rename_i h; exact fin_not_nan (fin_whole x h)
  · exact hn
theorem wh_wh (x : Nat) : wh (wh x) = wh x := by
  by_cases h : fin x = true
  · have e : wh x = whole x := by unfold wh; rw [if_pos h]
    rw [e]; unfold wh; rw [if_pos (fin_whole x h), whole_whole x h]
  · have e : wh x = x := by unfold wh; rw [if_neg h]
    rw [e, e]
end Go.Proofs.Ytelalledjbeenaa
