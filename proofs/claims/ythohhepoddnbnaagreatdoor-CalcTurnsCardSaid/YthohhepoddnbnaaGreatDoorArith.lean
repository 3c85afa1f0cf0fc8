/- +, -, *, / on binary64 in a walk: one law, whatever the operands; a NaN's bits are drawn. -/
import Derived.Test.YthohhepoddnbnaaGreatDoorMgBase
import Derived.Laws.NewFold
namespace Go.Proofs.YthohhepoddnbnaaGreatDoor
open Go.RowKit Fl

/-- what an operation leaves -/
def fop (op : BinOp) (x y : Nat) (w : World) : Nat :=
  match floatBits op .f64 x y with
  | some r => r
  | none => (Question.nanBits .f64 x y).cut (w.tape w.drawn (Question.nanBits .f64 x y))
/-- how often the tape is asked -/
def fopN (op : BinOp) (x y : Nat) : Nat := if (floatBits op .f64 x y).isSome then 0 else 1
/-- one of the four -/
def four (op : BinOp) : Bool := match op with | .add | .sub | .mul | .quo => true | _ => false

theorem run_fop {P : Program} (op : BinOp) (ho : four op = true) (t : TypeId) (x y : Nat) (w : World) :
    (binOp op t (.float .f64 x) (.float .f64 y)).run P w = .ok (.float .f64 (fop op x y w)) (w.drewN (fopN op x y)) := by
  unfold fop fopN
  cases h : floatBits op .f64 x y with
  | some r => exact run_float_arith w op t .f64 x y r h
  | none =>
    cases op <;> first | (cases ho; done) | skip
    all_goals
      unfold floatBits at h
      simp only at h
      simp [binOp, Op.floatArith, h, Question.forced]
      rfl

theorem nanBits_cut (x y t : Nat) : U ((Question.nanBits .f64 x y).cut t) ∧ isN ((Question.nanBits .f64 x y).cut t) = true := by
  have e : (Question.nanBits .f64 x y).cut t = (t % 2) * 2 ^ 63 + 0x7ff0000000000000 + 1 + (t / 2) % (2 ^ 52 - 1) := rfl
  rw [e]
  have h1 : (t / 2) % (2 ^ 52 - 1) < 4503599627370495 := Nat.mod_lt _ (by decide)
  generalize (t / 2) % (2 ^ 52 - 1) = a at *
  have h2 : t % 2 < 2 := Nat.mod_lt _ (by decide)
  generalize t % 2 = b at *
  refine ⟨by unfold U; omega, ?_⟩
  unfold isN rg INF
  exact decide_eq_true (by omega)

theorem U_fop (op : BinOp) (x y : Nat) (w : World) : U (fop op x y w) := by
  unfold fop
  cases h : floatBits op .f64 x y with
  | some r =>
    have := floatBits_wf h
    unfold U; simpa [Lit.wf] using this
  | none => exact (nanBits_cut _ _ _).1

/-- the result's place, by the places -/
def opP (op : BinOp) (p q : Int) : Int :=
  match floatBits op .f64 (atW p) (atW q) with
  | some r => pl r
  | none => 9223372036854775807

theorem atW_pl (x : Nat) (hx : U x) (hn : isN x = false) : atW (pl x) = x := by
  have h := word_self x hx.lt
  have hl := rg_lt x
  cases hs : sg x
  · rw [hs] at h
    rw [pl_pos hn hs]; unfold atW
    rw [if_neg (by omega), Int.toNat_natCast]; exact h
  · rw [hs] at h
    rw [pl_neg hn hs]; unfold atW
    rw [if_pos (by omega), show (-(-(rg x : Int) - 1 + 1)).toNat = rg x by omega]; exact h
theorem isN_atW : isN (atW 9223372036854775807) = true := by decide
theorem U_atN : U (atW 9223372036854775807) := by unfold U; decide

theorem nan_op (op : BinOp) (x y : Nat) (hx : U x) (hy : U y) (h : isN x = true ∨ isN y = true) : floatBits op .f64 x y = none := by
  have e : ∀ d : Ieee.Datum, d.isNaN = true → ∃ s t, d = .nan s t := fun d hd => by cases d <;> simp [Ieee.Datum.isNaN] at hd ⊢
  unfold floatBits
  split
  all_goals first | rfl | skip
  all_goals
    first
      | (show Ieee.double.add x y = none; unfold Ieee.Format.add)
      | (show Ieee.double.sub x y = none; unfold Ieee.Format.sub)
      | (show Ieee.double.mul x y = none; unfold Ieee.Format.mul)
      | (show Ieee.double.div x y = none; unfold Ieee.Format.div)
    rcases h with h | h
    · rw [read_nan x hx h]; rfl
    · rw [read_nan y hy h]
      cases Ieee.double.read x <;> rfl

theorem pl_fop (op : BinOp) (x y : Nat) (w : World) (hx : U x) (hy : U y) : pl (fop op x y w) = opP op (pl x) (pl y) := by
  by_cases h : isN x = true ∨ isN y = true
  · have h1 := nan_op op x y hx hy h
    have h2 : floatBits op .f64 (atW (pl x)) (atW (pl y)) = none := by
      by_cases c : isN x = true
      · rw [pl_nan c]
        refine nan_op op _ _ U_atN ?_ (.inl isN_atW)
        have := pl_range y
        exact U_atW _ (by omega) (by omega)
      · rw [pl_nan (h.resolve_left c)]
        refine nan_op op _ _ ?_ U_atN (.inr isN_atW)
        have := pl_range x
        exact U_atW _ (by omega) (by omega)
    unfold fop opP
    rw [h1, h2]
    exact pl_nan (nanBits_cut _ _ _).2
  · have hx' : isN x = false := by cases c : isN x <;> simp_all
    have hy' : isN y = false := by cases c : isN y <;> simp_all
    unfold fop opP
    rw [atW_pl x hx hx', atW_pl y hy hy']
    cases h3 : floatBits op .f64 x y with
    | some r => rfl
    | none => exact pl_nan (nanBits_cut _ _ _).2

/-- x - x of a finite number is +0 -/
theorem sub_self_fin (x : Nat) (hx : U x) (hf : fin x = true) : floatBits .sub .f64 x x = some 0 := by
  show Ieee.double.sub x x = some 0
  obtain ⟨m, j, e, _⟩ := read_fin x hx hf
  unfold Ieee.Format.sub
  rw [e]
  have h1 : ∀ (s : Bool) (m up : Nat), Ieee.signed s m up + Ieee.signed (!s) m up = 0 := by
    intro s m up
    unfold Ieee.signed
    cases s <;> simp <;> omega
  simp only [Ieee.Datum.opposite, Ieee.Datum.sum, h1, if_true, Option.map_some]
  refine congrArg some ?_
  show Ieee.double.nearest _ _ _ = 0
  have : (sg x && !sg x) = false := by cases sg x <;> rfl
  rw [this]; rfl
theorem sub_self_inf (x : Nat) (hx : U x) (hf : fin x = false) : floatBits .sub .f64 x x = none := by
  by_cases hn : isN x = true
  · exact nan_op .sub x x hx hx (.inl hn)
  · have h1 := fin_false hf
    have h2 := isN_false (by simpa using hn)
    show Ieee.double.sub x x = none
    unfold Ieee.Format.sub
    rw [read_inf x hx (by omega)]
    cases sg x <;> rfl
end Go.Proofs.YthohhepoddnbnaaGreatDoor
