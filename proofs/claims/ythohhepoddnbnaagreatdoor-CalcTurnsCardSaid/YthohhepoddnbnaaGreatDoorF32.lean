/- binary32: Wide, Narrow of Wide, same32. -/
import Derived.Test.YthohhepoddnbnaaGreatDoorMgBase
import Derived.Test.YthohhepoddnbnaaGreatDoorMgFl
import Derived.Laws.NewFold
namespace Go.Proofs.YthohhepoddnbnaaGreatDoor
open Go.RowKit Fl

def U32 (x : Nat) : Prop := x < 4294967296
theorem U32.lt {x : Nat} (h : U32 x) : x < 4294967296 := h

theorem und24 : Tryz.prog.underlying 22 = some (.float .f64) := Tryz.underlying22
theorem nan64_cut (k y t : Nat) (q : Question) (hq : q = .nanConv .f64 y ∨ q = .nanBits .f64 y k) : U (q.cut t) ∧ isN (q.cut t) = true := by
  have e : q.cut t = (t % 2) * 2 ^ 63 + 0x7ff0000000000000 + 1 + (t / 2) % (2 ^ 52 - 1) := by rcases hq with h | h <;> subst h <;> rfl
  rw [e]
  have h1 : (t / 2) % (2 ^ 52 - 1) < 4503599627370495 := Nat.mod_lt _ (by decide)
  generalize (t / 2) % (2 ^ 52 - 1) = a at *
  have h2 : t % 2 < 2 := Nat.mod_lt _ (by decide)
  generalize t % 2 = b at *
  refine ⟨by unfold U; omega, ?_⟩
  unfold isN rg INF
  exact decide_eq_true (by omega)
theorem nan32_cut (y t : Nat) (q : Question) (hq : q = .nanConv .f32 y) : U32 (q.cut t) ∧ isN32 (q.cut t) = true := by
  have e : q.cut t = (t % 2) * 2 ^ 31 + 0x7f800000 + 1 + (t / 2) % (2 ^ 23 - 1) := by subst hq; rfl
  rw [e]
  have h1 : (t / 2) % (2 ^ 23 - 1) < 8388607 := Nat.mod_lt _ (by decide)
  generalize (t / 2) % (2 ^ 23 - 1) = a at *
  have h2 : t % 2 < 2 := Nat.mod_lt _ (by decide)
  generalize t % 2 = b at *
  refine ⟨by unfold U32; omega, ?_⟩
  unfold isN32 rg32
  exact decide_eq_true (by omega)

theorem conv_nan (s d : FloatKind) (ts td : TypeId) (y : Nat) (w : World) (hs : Tryz.prog.underlying ts = some (.float s)) (hd : Tryz.prog.underlying td = some (.float d)) (hne : s ≠ d) (hn : (s.decode y).isNaN = true) :
    (convert ts td (.float s y)).run Tryz.prog w = .ok (.float d ((Question.nanConv d y).cut (w.tape w.drawn (Question.nanConv d y)))) w.drew := by
  have h1 : convert ts td (.float s y) = convert ts td (.float s y) := rfl
  cases hdec : s.decode y with
  | nan a b => simp [convert, run_underlying hs, run_underlying hd, Conv.floatToFloat, hne, hdec, Question.forced]
  | number a b c => rw [hdec] at hn; cases hn
  | infinity a => rw [hdec] at hn; cases hn

theorem wide_some (y : Nat) (h : U32 y) (hn : isN32 y = false) : floatToFloatBits .f32 y .f64 = some (wide y) ∧ floatToFloatBits .f64 (wide y) .f32 = some y ∧ U (wide y) ∧ isN (wide y) = false := by
  have hn' := of_decide_eq_false hn
  by_cases hf : rg32 y < 2139095040
  · obtain ⟨h1, h2, h3, s, m, p, h4⟩ := narrow_wide_fin y h hf
    obtain ⟨m', j', e, hv, _⟩ := read32_fin y h hf
    refine ⟨?_, ?_, h3, fin_not_nan h2⟩
    · unfold floatToFloatBits
      rw [if_neg (by decide)]
      have d1 : FloatKind.f32.decode y = .number (sg32 y) m' (-149 + (j' : Int)) := e
      rw [d1]
      have d2 : FloatKind.f64.encode (.number (sg32 y) m' (-149 + (j' : Int))) = wide y := by
        show Ieee.double.write _ = _
        unfold wide; rw [e]
      have d3 : FloatKind.f64.decode (wide y) = .number s m p := h4
      simp only [d2, d3, Ieee.Datum.isInfinity, Bool.false_eq_true, if_false]
    · unfold floatToFloatBits
      rw [if_neg (by decide)]
      have d3 : FloatKind.f64.decode (wide y) = .number s m p := h4
      rw [d3]
      have d2 : FloatKind.f32.encode (.number s m p) = y := by
        show Ieee.single.write _ = _
        rw [← h4]; exact h1
      have d4 : FloatKind.f32.decode y = .number (sg32 y) m' (-149 + (j' : Int)) := e
      simp only [d2, d4, Ieee.Datum.isInfinity, Bool.false_eq_true, if_false]
  · have hi : rg32 y = 2139095040 := by omega
    have e := read32_inf y h hi
    have ew : wide y = word (sg32 y) INF := by
      unfold wide; rw [e]
      show Ieee.double.word _ _ = _
      rw [word_eq, d_inf]
    have hu : U (wide y) := by rw [ew]; exact U_word _ _ (by decide)
    have hr : rg (wide y) = INF := by rw [ew, rg_word _ _ (by decide)]
    have hs : sg (wide y) = sg32 y := by rw [ew, sg_word _ _ (by decide)]
    refine ⟨?_, ?_, hu, by unfold isN; rw [hr]; decide⟩
    · unfold floatToFloatBits
      rw [if_neg (by decide)]
      have d1 : FloatKind.f32.decode y = .infinity (sg32 y) := e
      rw [d1]
      show some (Ieee.double.write (.infinity (sg32 y))) = _
      unfold wide; rw [e]
    · unfold floatToFloatBits
      rw [if_neg (by decide)]
      have d1 : FloatKind.f64.decode (wide y) = .infinity (sg32 y) := by
        show Ieee.double.read _ = _
        rw [read_inf _ hu hr, hs]
      rw [d1]
      show some (Ieee.single.word (sg32 y) Ieee.single.infRung) = _
      rw [s_inf, ← hi, word32_self y h]

def RetN32 (e : Ending) : Prop := ∃ r, e = .returned (.float .f32 r) ∧ U32 r ∧ isN32 r = true
theorem neq_self32 (x : Nat) (h : U32 x) : (FloatKind.f32.format.order x x != some Ordering.eq) = isN32 x := by
  show (Ieee.single.order x x != some Ordering.eq) = _
  rw [order_self]
  cases hn : isN32 x
  · have hn' := of_decide_eq_false hn
    by_cases hf : rg32 x < 2139095040
    · obtain ⟨m, j, e, _⟩ := read32_fin x h hf
      rw [e]; rfl
    · rw [read32_inf x h (by omega)]; rfl
  · rw [read32_nan x h hn]; rfl
theorem b_mag32 (x : Nat) (h : U32 x) : bits .andNot .u32 (x : Int) 2147483648 = (rg32 x : Int) := by
  have := h.lt
  rw [show (2147483648 : Int) = ((2147483648 : Nat) : Int) from rfl, u32_andNot_nat _ _ h.lt (by omega)]
  congr 1
  exact Nat.and_two_pow_sub_one_eq_mod x 31
end Go.Proofs.YthohhepoddnbnaaGreatDoor
