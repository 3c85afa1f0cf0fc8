/- Sums of two whole numbers and sums of one: plain laws. -/
import Derived.Test.YtelalledjbeenaaMgUG
import Derived.Test.YtelalledjbeenaaMgSumsA
namespace Go.Proofs.Ytelalledjbeenaa
open Go.RowKit Fl

/-- a sum of two whole numbers as a sum of one -/
def accOf (s : RS) : AS := ⟨(s.up : Int) - (s.down : Int), decide (0 < s.none), decide (0 < s.high), decide (0 < s.low), decide (s.cold ≠ s.many)⟩
theorem accOf_zero : accOf RS.zero = AS.zero := rfl
theorem fin_un (x : Nat) : un x = if sg x = true then -(val 52 (rg x) : Int) else (val 52 (rg x) : Int) := rfl
theorem accOf_add (s : RS) (x : Nat) (h : s.cold ≤ s.many) : accOf (addR s x) = addS (accOf s) x := by
  unfold accOf addR addS
  congr 1
  · cases hf : fin x <;> simp only [Bool.false_eq_true, if_false, false_and, true_and, if_true, Nat.add_zero]
    rw [fin_un]
    cases sg x <;> simp only [Bool.false_eq_true, Bool.true_eq_false, if_false, if_true, Nat.add_zero] <;> omega
  · cases isN x <;> simp
  · by_cases c : x = 9218868437227405312
    · rw [if_pos c, decide_eq_true c]; simp
    · rw [if_neg c, decide_eq_false c]; simp
  · by_cases c : x = 18442240474082181120
    · rw [if_pos c, decide_eq_true c]; simp
    · rw [if_neg c, decide_eq_false c]; simp
  · by_cases c : x = 9223372036854775808
    · rw [if_pos c, show decide (x ≠ 9223372036854775808) = false from decide_eq_false (fun h => h c), Bool.or_false]
      show decide (s.cold + 1 ≠ s.many + 1) = decide (s.cold ≠ s.many)
      exact decide_eq_decide.2 (by omega)
    · rw [if_neg c, decide_eq_true c, Bool.or_true]
      exact decide_eq_true (show s.cold + 0 ≠ s.many + 1 by omega)
def E98 : Nat := 2098
def N2098 : Nat := 2 ^ E98
theorem mul_pow_le2 (a m k j t : Nat) (h1 : a ≤ 2 ^ m) (h2 : k ≤ j) (ht : m + j = t) : a * 2 ^ k ≤ 2 ^ t := by subst ht; exact mul_pow_le a m k j h1 h2
/-- what a sum of so many numbers comes to at most -/
structure ROK (s : RS) : Prop where
  cold : s.cold ≤ s.many
  none : s.none ≤ s.many
  high : s.high ≤ s.many
  low : s.low ≤ s.many
  up : s.up ≤ s.many * N2098
  down : s.down ≤ s.many * N2098
theorem ROK.zero : ROK RS.zero := ⟨Nat.le_refl _, Nat.le_refl _, Nat.le_refl _, Nat.le_refl _, Nat.zero_le _, Nat.zero_le _⟩
theorem unit_le (x : Nat) (h : fin x = true) : val 52 (rg x) ≤ N2098 := by
  rw [val_mm]
  have h1 := mM_lt x
  exact mul_pow_le2 (mM x) 53 (mE x) 2045 E98 (by omega) (mE_le x h) rfl
theorem ROK.add {s : RS} (h : ROK s) (x : Nat) : ROK (addR s x) := by
  have hu := h.up
  have hd := h.down
  have hc := h.cold
  have hn := h.none
  have hi := h.high
  have hl := h.low
  have hx := unit_le x
  have e : (s.many + 1) * N2098 = s.many * N2098 + N2098 := Nat.succ_mul _ _
  refine ⟨?_, ?_, ?_, ?_, ?_, ?_⟩
  · unfold addR
    simp only
    split <;> omega
  · unfold addR
    simp only
    split <;> omega
  · unfold addR
    simp only
    split <;> omega
  · unfold addR
    simp only
    split <;> omega
  · unfold addR
    simp only
    rw [e]
    by_cases c : fin x = true ∧ sg x = false
    · rw [if_pos c]; have := hx c.1; omega
    · rw [if_neg c]; omega
  · unfold addR
    simp only
    rw [e]
    by_cases c : fin x = true ∧ sg x = true
    · rw [if_pos c]; have := hx c.1; omega
    · rw [if_neg c]; omega
theorem ROK.small {s : RS} (h : ROK s) (hm : s.many < 4611686018427387904) : s.up < 2 ^ (32 * RC) ∧ s.down < 2 ^ (32 * RC) := by
  have hu := h.up
  have hd := h.down
  have hp : 0 < N2098 := Nat.two_pow_pos _
  have h1 : s.many * N2098 < 2 ^ 62 * N2098 := Nat.mul_lt_mul_of_pos_right (show s.many < 2 ^ 62 by omega) hp
  have h2 : 2 ^ 62 * N2098 ≤ 2 ^ (32 * RC) := by
    unfold N2098
    rw [← Nat.pow_add]
    exact pow2_le _ _ (by rw [RC_eq]; unfold E98; decide)
  omega
/-- a sum of the numbers of a list -/
def sumR (l : List Nat) : RS := l.foldl addR RS.zero
theorem sumR_take (l : List Nat) (k x : Nat) (h : l[k]? = some x) : sumR (l.take (k + 1)) = addR (sumR (l.take k)) x := by
  unfold sumR
  rw [List.take_add_one, h, List.foldl_append]; rfl
theorem fold_ok (l : List Nat) : ∀ s : RS, ROK s → ROK (l.foldl addR s) := by
  induction l with
  | nil => intro s h; exact h
  | cons x r ih => intro s h; exact ih _ (h.add x)
theorem fold_many (l : List Nat) : ∀ s : RS, (l.foldl addR s).many = s.many + l.length := by
  induction l with
  | nil => intro s; rfl
  | cons x r ih => intro s; rw [List.foldl_cons, ih, List.length_cons]; show s.many + 1 + _ = _; omega
theorem fold_acc (l : List Nat) : ∀ s : RS, ROK s → accOf (l.foldl addR s) = l.foldl addS (accOf s) := by
  induction l with
  | nil => intro s h; rfl
  | cons x r ih => intro s h; rw [List.foldl_cons, List.foldl_cons, ih _ (h.add x), accOf_add s x h.cold]
theorem sumR_ok (l : List Nat) : ROK (sumR l) := fold_ok l _ ROK.zero
theorem sumR_many (l : List Nat) : (sumR l).many = l.length := by unfold sumR; rw [fold_many]; exact Nat.zero_add _
theorem sumR_acc (l : List Nat) : accOf (sumR l) = accS l := fold_acc l _ ROK.zero
end Go.Proofs.Ytelalledjbeenaa
