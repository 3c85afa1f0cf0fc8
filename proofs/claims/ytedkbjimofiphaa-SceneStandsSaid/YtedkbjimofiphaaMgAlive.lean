/- The head of all statements of layer 1: 'alive' answers true. +, -, *, / on binary64 in a walk: one law, whatever the operands; a NaN's bits are drawn. Steps of the relational walk by the operation's kind; each fails at once where it does not fit. Whole numbers as 40 words of 64 bits, below nought by the two's complement: the plain laws. -/
import Derived.Test.YtedkbjimofiphaaMgJoin
import Derived.Test.YtedkbjimofiphaaF32
import Derived.Laws.StructEq
import Derived.Test.YtedkbjimofiphaaMgBase
import Derived.Laws.NewFold
import Derived.Test.YtedkbjimofiphaaRel
namespace Go.Proofs.Ytedkbjimofiphaa
open Go.RowKit Fl
theorem U_of_wf {x : Nat} (h : (Lit.float .f64 x).wf = true) : U x := by
  unfold U; simpa [Lit.wf] using h
theorem below_of_alloc {w w1 w2 : World} {o : Obj} (h : Below w.heap.size w w1) (hb : Below (w1.alloc o).heap.size (w1.alloc o) w2) : Below w.heap.size w w2 :=
  (h.alloc h.size o).trans (hb.mono (by have := h.size; simp; omega))
theorem below_trans {w w1 w2 : World} (h : Below w.heap.size w w1) (hb : Below w1.heap.size w1 w2) : Below w.heap.size w w2 := h.trans (hb.mono h.size)
end Go.Proofs.Ytedkbjimofiphaa

namespace Go.Proofs.Ytedkbjimofiphaa
open Go.RowKit Fl
/-- what an operation leaves -/
def fop (op : BinOp) (x y : Nat) (w : World) : Nat :=
  match floatBits op .f64 x y with
  | some r => r
  | none => (Question.nanBits .f64 x y).cut (w.tape w.drawn (Question.nanBits .f64 x y))
/-- how often the tape is asked -/
def fopN (op : BinOp) (x y : Nat) : Nat := if (floatBits op .f64 x y).isSome then 0 else 1
/-- one of the four -/
def four (op : BinOp) : Bool := match op with | .add | .sub | .mul | .quo => true | _ => false
theorem run_fop {P : Program} (op : BinOp) (ho : four op = true) (t : TypeId) (x y : Nat) (w : World) :
    (binOp op t (.float .f64 x) (.float .f64 y)).run P w = .ok (.float .f64 (fop op x y w)) (w.drewN (fopN op x y)) := by
  unfold fop fopN
  cases h : floatBits op .f64 x y with
  | some r => exact run_float_arith w op t .f64 x y r h
  | none =>
    cases op <;> first | (cases ho; done) | skip
    all_goals
      unfold floatBits at h
      simp only at h
      simp [binOp, Op.floatArith, h, Question.forced]
      rfl
theorem nanBits_cut (x y t : Nat) : U ((Question.nanBits .f64 x y).cut t) ∧ isN ((Question.nanBits .f64 x y).cut t) = true := by
  have e : (Question.nanBits .f64 x y).cut t = (t % 2) * 2 ^ 63 + 0x7ff0000000000000 + 1 + (t / 2) % (2 ^ 52 - 1) := rfl
  rw [e]
  have h1 : (t / 2) % (2 ^ 52 - 1) < 4503599627370495 := Nat.mod_lt _ (by decide)
  generalize (t / 2) % (2 ^ 52 - 1) = a at *
  have h2 : t % 2 < 2 := Nat.mod_lt _ (by decide)
  generalize t % 2 = b at *
  refine ⟨by unfold U; omega, ?_⟩
  unfold isN rg INF
  exact decide_eq_true (by omega)
theorem U_fop (op : BinOp) (x y : Nat) (w : World) : U (fop op x y w) := by
  unfold fop
  cases h : floatBits op .f64 x y with
  | some r =>
    have := floatBits_wf h
    unfold U; simpa [Lit.wf] using this
  | none => exact (nanBits_cut _ _ _).1
/-- the result's place, by the places -/
def opP (op : BinOp) (p q : Int) : Int :=
  match floatBits op .f64 (atW p) (atW q) with
  | some r => pl r
  | none => 9223372036854775807
theorem atW_pl (x : Nat) (hx : U x) (hn : isN x = false) : atW (pl x) = x := by
  have h := word_self x hx.lt
  have hl := rg_lt x
  cases hs : sg x
  · rw [hs] at h
    rw [pl_pos hn hs]; unfold atW
    rw [if_neg (by omega), Int.toNat_natCast]; exact h
  · rw [hs] at h
    rw [pl_neg hn hs]; unfold atW
    rw [if_pos (by omega), show (-(-(rg x : Int) - 1 + 1)).toNat = rg x by omega]; exact h
theorem isN_atW : isN (atW 9223372036854775807) = true := by decide
theorem U_atN : U (atW 9223372036854775807) := by unfold U; decide
theorem nan_op (op : BinOp) (x y : Nat) (hx : U x) (hy : U y) (h : isN x = true ∨ isN y = true) : floatBits op .f64 x y = none := by
  have e : ∀ d : Ieee.Datum, d.isNaN = true → ∃ s t, d = .nan s t := fun d hd => by cases d <;> simp [Ieee.Datum.isNaN] at hd ⊢
  unfold floatBits
  split
  all_goals first | rfl | skip
  all_goals
    first
      | (show Ieee.double.add x y = none; unfold Ieee.Format.add)
      | (show Ieee.double.sub x y = none; unfold Ieee.Format.sub)
      | (show Ieee.double.mul x y = none; unfold Ieee.Format.mul)
      | (show Ieee.double.div x y = none; unfold Ieee.Format.div)
    rcases h with h | h
    · rw [read_nan x hx h]; rfl
    · rw [read_nan y hy h]
      cases Ieee.double.read x <;> rfl
theorem pl_fop (op : BinOp) (x y : Nat) (w : World) (hx : U x) (hy : U y) : pl (fop op x y w) = opP op (pl x) (pl y) := by
  by_cases h : isN x = true ∨ isN y = true
  · have h1 := nan_op op x y hx hy h
    have h2 : floatBits op .f64 (atW (pl x)) (atW (pl y)) = none := by
      by_cases c : isN x = true
      · rw [pl_nan c]
        refine nan_op op _ _ U_atN ?_ (.inl isN_atW)
        have := pl_range y
        exact U_atW _ (by omega) (by omega)
      · rw [pl_nan (h.resolve_left c)]
        refine nan_op op _ _ ?_ U_atN (.inr isN_atW)
        have := pl_range x
        exact U_atW _ (by omega) (by omega)
    unfold fop opP
    rw [h1, h2]
    exact pl_nan (nanBits_cut _ _ _).2
  · have hx' : isN x = false := by cases c : isN x <;> simp_all
    have hy' : isN y = false := by cases c : isN y <;> simp_all
    unfold fop opP
    rw [atW_pl x hx hx', atW_pl y hy hy']
    cases h3 : floatBits op .f64 x y with
    | some r => rfl
    | none => exact pl_nan (nanBits_cut _ _ _).2
end Go.Proofs.Ytedkbjimofiphaa

namespace Go.Proofs.Ytedkbjimofiphaa
open Go
section
variable {P : Program} {ops : Array Oper} {C : World → Prop} {G : FuncId → Array Value → Value → Prop} {Q : Act → Prop} {rest : List Oper} {a : Act}
variable {dst : Option Tmp} {ty : TypeId} {pos : String} {af : Array Edge} {gd : Option (Nat × Bool)}
theorem rel_move {x : Operand} {v : Value} (hv : a.eval x = v) (hw : Region.wanted ⟨dst, .move x, ty, pos, af, gd⟩ (yielded ops a.tmps) = true) (k : wpRel P ops C G Q rest (a.put dst v)) :
    wpRel P ops C G Q (⟨dst, .move x, ty, pos, af, gd⟩ :: rest) a :=
  rel_val hw (fun w _ => by subst hv; rfl) k
theorem rel_assign {x : Operand} {v : Value} (hv : a.eval x = v) (hw : Region.wanted ⟨dst, .assign x, ty, pos, af, gd⟩ (yielded ops a.tmps) = true) (k : wpRel P ops C G Q rest (a.put dst v)) :
    wpRel P ops C G Q (⟨dst, .assign x, ty, pos, af, gd⟩ :: rest) a :=
  rel_val hw (fun w _ => by subst hv; rfl) k
end
end Go.Proofs.Ytedkbjimofiphaa

namespace Go.Proofs.Ytedkbjimofiphaa.Fl
/-- the i-th word of a whole number -/
def wd (z : Int) (i : Nat) : Int := z / (2 : Int) ^ (64 * i) % 18446744073709551616
theorem wd_range (z : Int) (i : Nat) : 0 ≤ wd z i ∧ wd z i < 18446744073709551616 := by
  unfold wd
  exact ⟨Int.emod_nonneg _ (by decide), Int.emod_lt_of_pos _ (by decide)⟩
theorem T_pos (i : Nat) : (0 : Int) < (2 : Int) ^ (64 * i) := Int.pow_pos (by decide)
theorem T_succ (i : Nat) : (2 : Int) ^ (64 * (i + 1)) = (2 : Int) ^ (64 * i) * 18446744073709551616 := by
  rw [Nat.mul_succ, Int.pow_add]; rfl
theorem emod_mul' (a T : Int) (hT : 0 < T) : a % (T * 18446744073709551616) = T * (a / T % 18446744073709551616) + a % T := by
  have h1 := Int.mul_ediv_add_emod a T
  have h2 := Int.emod_nonneg a (show T ≠ 0 by omega)
  have h3 := Int.emod_lt_of_pos a hT
  have h4 := Int.mul_ediv_add_emod (a / T) 18446744073709551616
  have h5 := Int.emod_nonneg (a / T) (show (18446744073709551616 : Int) ≠ 0 by decide)
  have h6 := Int.emod_lt_of_pos (a / T) (show (0 : Int) < 18446744073709551616 by decide)
  generalize a / T / 18446744073709551616 = q at *
  generalize a / T % 18446744073709551616 = r at *
  generalize a % T = s at *
  have e : a = (T * r + s) + T * 18446744073709551616 * q := by
    rw [← h1, ← h4, Int.mul_add, Int.mul_assoc]; omega
  have h7 : 0 ≤ T * r := Int.mul_nonneg (by omega) h5
  have h8 : T * r + T ≤ T * 18446744073709551616 := by
    have := Int.mul_le_mul_of_nonneg_left (show r + 1 ≤ 18446744073709551616 by omega) (show 0 ≤ T by omega)
    rw [Int.mul_add, Int.mul_one] at this; exact this
  rw [e, Int.add_mul_emod_self_left, Int.emod_eq_of_lt (by omega) (by omega)]
/-- what is carried into the i-th word of a sum -/
def cy (a b : Int) (i : Nat) : Int := (a % (2 : Int) ^ (64 * i) + b % (2 : Int) ^ (64 * i)) / (2 : Int) ^ (64 * i)
theorem cy_zero (a b : Int) : cy a b 0 = 0 := by simp [cy, Int.emod_one]
theorem cy_range (a b : Int) (i : Nat) : 0 ≤ cy a b i ∧ cy a b i ≤ 1 := by
  unfold cy
  have hT := T_pos i
  generalize (2 : Int) ^ (64 * i) = T at *
  have h1 := Int.emod_nonneg a (show T ≠ 0 by omega)
  have h2 := Int.emod_nonneg b (show T ≠ 0 by omega)
  have h3 := Int.emod_lt_of_pos a hT
  have h4 := Int.emod_lt_of_pos b hT
  refine ⟨Int.ediv_nonneg (by omega) (by omega), ?_⟩
  have : (a % T + b % T) / T < 2 := Int.ediv_lt_of_lt_mul hT (by omega)
  omega
theorem div_add (a b : Int) (i : Nat) : (a + b) / (2 : Int) ^ (64 * i) = a / (2 : Int) ^ (64 * i) + b / (2 : Int) ^ (64 * i) + cy a b i := by
  unfold cy
  have hT := T_pos i
  generalize (2 : Int) ^ (64 * i) = T at *
  have h1 := Int.mul_ediv_add_emod a T
  have h2 := Int.mul_ediv_add_emod b T
  have e : a + b = (a % T + b % T) + T * (a / T + b / T) := by rw [Int.mul_add]; omega
  rw [e, Int.add_mul_ediv_left _ _ (by omega)]
  omega
theorem wd_add (a b : Int) (i : Nat) : wd (a + b) i = (wd a i + wd b i + cy a b i) % 18446744073709551616 := by
  unfold wd
  rw [div_add]
  omega
theorem cy_succ (a b : Int) (i : Nat) : cy a b (i + 1) = (wd a i + wd b i + cy a b i) / 18446744073709551616 := by
  have key : ∀ a : Int, a % ((2 : Int) ^ (64 * i) * 18446744073709551616) = (2 : Int) ^ (64 * i) * wd a i + a % (2 : Int) ^ (64 * i) := by
    intro a
    unfold wd
    have hT := T_pos i
    generalize (2 : Int) ^ (64 * i) = T at *
    exact emod_mul' a T hT
  have hT := T_pos i
  show (a % (2 : Int) ^ (64 * (i + 1)) + b % (2 : Int) ^ (64 * (i + 1))) / (2 : Int) ^ (64 * (i + 1)) = _
  rw [T_succ, key, key]
  unfold cy
  generalize (2 : Int) ^ (64 * i) = T at *
  generalize wd a i = x
  generalize wd b i = y
  rw [← Int.ediv_ediv_of_nonneg (by omega)]
  congr 1
  have e : T * x + a % T + (T * y + b % T) = (a % T + b % T) + T * (x + y) := by rw [Int.mul_add]; omega
  rw [e, Int.add_mul_ediv_left _ _ (by omega)]
  omega
/-- what is borrowed from the i-th word of nought less a number -/
def bw (a : Int) (i : Nat) : Int := if a % (2 : Int) ^ (64 * i) = 0 then 0 else 1
theorem bw_zero (a : Int) : bw a 0 = 0 := by simp [bw, Int.emod_one]
theorem bw_range (a : Int) (i : Nat) : 0 ≤ bw a i ∧ bw a i ≤ 1 := by unfold bw; split <;> omega
theorem wd_neg (a : Int) (i : Nat) : wd (-a) i = (0 - wd a i - bw a i) % 18446744073709551616 := by
  unfold wd bw
  have hT := T_pos i
  generalize (2 : Int) ^ (64 * i) = T at *
  have h1 := Int.mul_ediv_add_emod a T
  have h2 := Int.emod_nonneg a (show T ≠ 0 by omega)
  have h3 := Int.emod_lt_of_pos a hT
  have e : -a / T = -(a / T) - (if a % T = 0 then 0 else 1) := by
    split
    · rename_i h
      have : -a = 0 + T * (-(a / T)) := by rw [Int.mul_neg]; omega
      rw [this, Int.add_mul_ediv_left _ _ (by omega)]; simp
    · rename_i h
      have : -a = (T - a % T) + T * (-(a / T) - 1) := by rw [Int.mul_sub, Int.mul_neg]; omega
      rw [this, Int.add_mul_ediv_left _ _ (by omega), Int.ediv_eq_zero_of_lt (by omega) (by omega)]; omega
  rw [e]
  generalize (if a % T = 0 then (0 : Int) else 1) = c
  omega
theorem bw_succ (a : Int) (i : Nat) : bw a (i + 1) = if wd a i + bw a i = 0 then 0 else 1 := by
  have key : a % ((2 : Int) ^ (64 * i) * 18446744073709551616) = (2 : Int) ^ (64 * i) * wd a i + a % (2 : Int) ^ (64 * i) := by
    unfold wd
    have hT := T_pos i
    generalize (2 : Int) ^ (64 * i) = T at *
    exact emod_mul' a T hT
  have hT := T_pos i
  have hw := wd_range a i
  show (if a % (2 : Int) ^ (64 * (i + 1)) = 0 then (0 : Int) else 1) = _
  rw [T_succ, key]
  unfold bw
  generalize (2 : Int) ^ (64 * i) = T at *
  generalize wd a i = x at *
  have h2 := Int.emod_nonneg a (show T ≠ 0 by omega)
  generalize a % T = r at *
  by_cases hx : x = 0
  · subst hx
    rw [Int.mul_zero, Int.zero_add]
    split <;> simp_all
  · have h3 : 0 < T * x := Int.mul_pos hT (by omega)
    rw [if_neg (by omega), if_neg]
    split <;> omega
end Go.Proofs.Ytedkbjimofiphaa.Fl
