/- Natural numbers as words of 32 bits: sums, differences, which is greater: plain laws. -/
namespace Go.Proofs.YthohhepoddnbnaaGreatDoor.Fl

/-- the i-th word of a number -/
def dg (n i : Nat) : Nat := n / 2 ^ (32 * i) % 4294967296
theorem dg_lt (n i : Nat) : dg n i < 4294967296 := Nat.mod_lt _ (by decide)
theorem Q_pos (i : Nat) : 0 < 2 ^ (32 * i) := Nat.two_pow_pos _
theorem Q_succ (i : Nat) : 2 ^ (32 * (i + 1)) = 2 ^ (32 * i) * 4294967296 := by rw [Nat.mul_succ, Nat.pow_add]
theorem mod_succ (a i : Nat) : a % 2 ^ (32 * (i + 1)) = 2 ^ (32 * i) * dg a i + a % 2 ^ (32 * i) := by
  unfold dg
  rw [Q_succ, Nat.mod_mul]
  omega
/-- what is carried into the i-th word of a sum -/
def cr (a b i : Nat) : Nat := (a % 2 ^ (32 * i) + b % 2 ^ (32 * i)) / 2 ^ (32 * i)
theorem cr_le (a b i : Nat) : cr a b i ≤ 1 := by
  unfold cr
  have hT := Q_pos i
  generalize 2 ^ (32 * i) = T at *
  have h1 := Nat.mod_lt a hT
  have h2 := Nat.mod_lt b hT
  have : (a % T + b % T) / T < 2 := Nat.div_lt_of_lt_mul (by omega)
  omega
theorem div_cr (a b i : Nat) : (a + b) / 2 ^ (32 * i) = a / 2 ^ (32 * i) + b / 2 ^ (32 * i) + cr a b i := by
  unfold cr
  have hT := Q_pos i
  generalize 2 ^ (32 * i) = T at *
  have h1 := Nat.div_add_mod a T
  have h2 := Nat.div_add_mod b T
  have e : a + b = (a % T + b % T) + T * (a / T + b / T) := by rw [Nat.mul_add]; omega
  rw [e, Nat.add_mul_div_left _ _ hT]
  have e2 : ((a % T + b % T) + T * (a / T + b / T)) = a + b := e.symm
  omega
theorem dg_add (a b i : Nat) : dg (a + b) i = (dg a i + dg b i + cr a b i) % 4294967296 := by
  unfold dg
  rw [div_cr]
  omega
theorem cr_succ (a b i : Nat) : cr a b (i + 1) = (dg a i + dg b i + cr a b i) / 4294967296 := by
  have hT := Q_pos i
  show (a % 2 ^ (32 * (i + 1)) + b % 2 ^ (32 * (i + 1))) / 2 ^ (32 * (i + 1)) = _
  rw [mod_succ, mod_succ, Q_succ]
  unfold cr
  generalize 2 ^ (32 * i) = T at *
  generalize dg a i = x
  generalize dg b i = y
  rw [← Nat.div_div_eq_div_mul]
  congr 1
  have e : T * x + a % T + (T * y + b % T) = (a % T + b % T) + T * (x + y) := by rw [Nat.mul_add]; omega
  rw [e, Nat.add_mul_div_left _ _ hT]
  omega
theorem cr_low (a b i : Nat) (h : b % 2 ^ (32 * i) = 0) : cr a b i = 0 := by
  unfold cr
  rw [h, Nat.add_zero]
  exact Nat.div_eq_of_lt (Nat.mod_lt _ (Q_pos i))
/-- where nothing is carried and nothing is added the word stays, and nothing is carried on -/
theorem dg_stay (a b i : Nat) (h : b < 2 ^ (32 * i)) (h0 : cr a b i = 0) (j : Nat) (hj : i ≤ j) : dg (a + b) j = dg a j := by
  unfold dg
  have e : (a + b) / 2 ^ (32 * i) = a / 2 ^ (32 * i) := by rw [div_cr, h0, Nat.div_eq_of_lt h]; omega
  have e2 : ∀ x : Nat, x / 2 ^ (32 * j) = x / 2 ^ (32 * i) / 2 ^ (32 * (j - i)) := fun x => by
    rw [Nat.div_div_eq_div_mul, ← Nat.pow_add]; congr 2; omega
  rw [e2 (a + b), e2 a, e]
theorem dg_high (b i : Nat) (h : b < 2 ^ (32 * i)) : dg b i = 0 := by unfold dg; rw [Nat.div_eq_of_lt h]
theorem dg_low (v k i : Nat) (h : i < k) : dg (v * 2 ^ (32 * k)) i = 0 := by
  unfold dg
  have e : 2 ^ (32 * k) = 2 ^ (32 * i) * (4294967296 * 2 ^ (32 * (k - i - 1))) := by
    rw [show (4294967296 : Nat) = 2 ^ 32 by decide, ← Nat.pow_add, ← Nat.pow_add]; congr 1; omega
  have e2 : v * (2 ^ (32 * i) * (4294967296 * 2 ^ (32 * (k - i - 1)))) = 4294967296 * (v * 2 ^ (32 * (k - i - 1))) * 2 ^ (32 * i) := by
    simp only [Nat.mul_comm, Nat.mul_assoc, Nat.mul_left_comm]
  rw [e, e2, Nat.mul_div_cancel _ (Q_pos i), Nat.mul_mod_right]
/-- the words of a number shifted by whole words -/
theorem dg_shift (v k i : Nat) : dg (v * 2 ^ (32 * k)) (k + i) = dg v i := by
  unfold dg
  rw [Nat.mul_add, Nat.pow_add, ← Nat.div_div_eq_div_mul, Nat.mul_div_cancel _ (Q_pos k)]
/-- a difference -/
def br (a b i : Nat) : Nat := if a % 2 ^ (32 * i) < b % 2 ^ (32 * i) then 1 else 0
theorem br_le (a b i : Nat) : br a b i ≤ 1 := by unfold br; split <;> omega
theorem br_zero (a b : Nat) : br a b 0 = 0 := by unfold br; simp [Nat.mod_one]
theorem br_succ (a b i : Nat) : br a b (i + 1) = if dg a i < dg b i + br a b i then 1 else 0 := by
  have hT := Q_pos i
  show (if a % 2 ^ (32 * (i + 1)) < b % 2 ^ (32 * (i + 1)) then 1 else 0) = _
  rw [mod_succ, mod_succ]
  unfold br
  generalize 2 ^ (32 * i) = T at *
  generalize dg a i = x
  generalize dg b i = y
  have h1 := Nat.mod_lt a hT
  have h2 := Nat.mod_lt b hT
  generalize a % T = r at *
  generalize b % T = s at *
  rcases Nat.lt_trichotomy x y with c | c | c
  · have : T * x + T ≤ T * y := by rw [← Nat.mul_succ]; exact Nat.mul_le_mul_left T c
    rw [if_pos (by omega), if_pos (by omega)]
  · subst c
    by_cases h : r < s
    · rw [if_pos (by omega), if_pos h, if_pos (by omega)]
    · rw [if_neg (by omega), if_neg h, if_neg (by omega)]
  · have : T * y + T ≤ T * x := by rw [← Nat.mul_succ]; exact Nat.mul_le_mul_left T c
    rw [if_neg (by omega), if_neg]
    split <;> omega
theorem dg_sub (a b i : Nat) (h : b ≤ a) : dg (a - b) i = (dg a i + 4294967296 - dg b i - br a b i) % 4294967296 := by
  have hs : a = (a - b) + b := by omega
  generalize a - b = d at *
  subst hs
  have hc : br (d + b) b i = cr d b i := by
    unfold br cr
    have hT := Q_pos i
    generalize 2 ^ (32 * i) = T at *
    have h1 := Nat.mod_lt d hT
    have h2 := Nat.mod_lt b hT
    by_cases hlt : d % T + b % T < T
    · rw [Nat.add_mod, Nat.mod_eq_of_lt hlt, Nat.div_eq_of_lt hlt, if_neg (by omega)]
    · have e : (d + b) % T = d % T + b % T - T := by
        rw [Nat.add_mod, Nat.mod_eq_sub_mod (by omega), Nat.mod_eq_of_lt (by omega)]
      have e2 : (d % T + b % T) / T = 1 := by
        rw [show d % T + b % T = (d % T + b % T - T) + T * 1 by omega, Nat.add_mul_div_left _ _ hT, Nat.div_eq_of_lt (by omega)]
      rw [e, e2, if_pos (by omega)]
  rw [hc, dg_add]
  have h1 := dg_lt d i
  have h2 := dg_lt b i
  have h3 := cr_le d b i
  omega
/-- which is greater -/
theorem top_step (a b i : Nat) (h : a / 2 ^ (32 * (i + 1)) = b / 2 ^ (32 * (i + 1))) :
    (dg b i < dg a i → b < a) ∧ (dg a i < dg b i → a < b) ∧ (dg a i = dg b i → a / 2 ^ (32 * i) = b / 2 ^ (32 * i)) := by
  have hT := Q_pos i
  have e : ∀ x : Nat, x / 2 ^ (32 * i) = 4294967296 * (x / 2 ^ (32 * (i + 1))) + dg x i := fun x => by
    unfold dg
    rw [Q_succ, ← Nat.div_div_eq_div_mul]
    omega
  have ea := e a
  have eb := e b
  rw [h] at ea
  have lt : ∀ x y : Nat, x / 2 ^ (32 * i) < y / 2 ^ (32 * i) → x < y := fun x y hxy => by
    rcases Nat.lt_or_ge x y with c | c
    · exact c
    · exact absurd (Nat.div_le_div_right (c := 2 ^ (32 * i)) c) (by omega)
  exact ⟨fun h1 => lt _ _ (by omega), fun h1 => lt _ _ (by omega), fun h1 => by omega⟩
theorem top_all (a b : Nat) (h : a / 2 ^ (32 * 0) = b / 2 ^ (32 * 0)) : a = b := by simpa using h
end Go.Proofs.YthohhepoddnbnaaGreatDoor.Fl
