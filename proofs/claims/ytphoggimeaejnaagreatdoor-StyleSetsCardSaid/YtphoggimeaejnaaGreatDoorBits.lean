
/- The walks of package bits and of its reference: order, neighbours, parts. -/
import Derived.Test.YtphoggimeaejnaaGreatDoorBase
namespace Go.Proofs.YtphoggimeaejnaaGreatDoor
open Go.RowKit Fl

theorem sg_word_cmp (x : Nat) (h : U x) : bits .and .u64 (x : Int) 9223372036854775808 = if sg x then 9223372036854775808 else 0 := b_sign x h
theorem inf_lt (x : Nat) : ((INF : Int) < (rg x : Int)) = (isN x = true) := by
  unfold isN; simp

set_option maxRecDepth 100000 in
theorem c134 (x : Nat) (w : World) (hx : U x) : Calls Tryz.prog 53 #[.float .f64 x] w fun e w' => e = .returned (.int .i64 (pl x)) ∧ w = w' := by
  have h1 := b_sign x hx
  have h2 := b_mag x hx
  have hlt := rg_lt x
  have h3 : wrap64 (rg x : Int) = (rg x : Int) := by unfold wrap64; omega
  cases hn : isN x
  · have hr := isN_false hn
    unfold INF at hr
    cases hs : sg x
    · rw [pl_pos hn hs]
      rw [hs, if_neg (by decide)] at h1
      have h4 : ¬ (9218868437227405312 : Int) < (rg x : Int) := by omega
      clear hlt hr
      go_enter Tryz.func53, Tryz.ntmps53
      go_wp2
      go_ret
      exact ⟨rfl, rfl⟩
    · rw [pl_neg hn hs]
      rw [hs, if_pos rfl] at h1
      have h4 : ¬ (9218868437227405312 : Int) < (rg x : Int) := by omega
      have h5 : wrap64 (-(rg x : Int)) = -(rg x : Int) := by unfold wrap64; omega
      have h6 : wrap64 (-(rg x : Int) - 1) = -(rg x : Int) - 1 := by unfold wrap64; omega
      clear hlt hr
      go_enter Tryz.func53, Tryz.ntmps53
      go_wp2
      go_ret
      exact ⟨rfl, rfl⟩
  · have hr := isN_true hn
    unfold INF at hr
    rw [pl_nan hn]
    have h4 : (9218868437227405312 : Int) < (rg x : Int) := by omega
    clear hlt hr h1
    go_enter Tryz.func53, Tryz.ntmps53
    go_wp2
    go_ret
    exact ⟨rfl, rfl⟩

set_option maxRecDepth 100000 in
theorem c164 (x : Nat) (w : World) (hx : U x) : Calls Tryz.prog 51 #[.float .f64 x] w fun e w' => e = .returned (.bool (isN x)) ∧ w = w' := by
  have h2 := b_mag x hx
  go_enter Tryz.func51, Tryz.ntmps51
  go_wp2
  go_ret
  refine ⟨?_, rfl⟩
  unfold isN INF
  simp; omega

theorem same_bits {x y : Nat} (hx : U x) (hy : U y) : ((x == y) || (isN x && isN y)) = (pl x == pl y) := by
  have := pl_eq_iff hx hy
  rw [Bool.eq_iff_iff]; simp [this]
theorem feq_self {x : Nat} : feqP (pl x) (pl x) = !isN x := by
  rw [isN_iff_pl, Bool.eq_iff_iff]; simp [feqP]

def cmpZ (a b : Int) : Int := if a < b then -1 else if b < a then 1 else 0

theorem b_or (r : Nat) (h : r < 9223372036854775808) : bits .or .u64 (r : Int) 9223372036854775808 = ((9223372036854775808 + r : Nat) : Int) := by
  rw [show (9223372036854775808 : Int) = ((9223372036854775808 : Nat) : Int) from rfl, u64_or_nat _ _ (by omega) (by omega)]
  congr 1
  rw [Nat.or_comm]
  exact nat_join 63 (2 ^ 63) r (by decide) h

def atW (k : Int) : Nat := if k < 0 then word true (-(k + 1)).toNat else word false k.toNat
theorem pl_atW (k : Int) (h1 : -9218868437227405313 ≤ k) (h2 : k ≤ 9218868437227405312) : pl (atW k) = k := by
  unfold atW
  split
  · rw [pl_word _ _ (by unfold INF; omega), if_pos rfl]; omega
  · rw [pl_word _ _ (by unfold INF; omega), if_neg (by decide)]; omega
theorem U_atW (k : Int) (h1 : -9223372036854775808 ≤ k) (h2 : k ≤ 9223372036854775807) : U (atW k) := by
  unfold atW
  split <;> exact U_word _ _ (by omega)

def nextP (p : Int) : Int := if p = 9223372036854775807 ∨ p = 9218868437227405312 then p else if p = 0 ∨ p = -1 then 1 else p + 1
def prevP (p : Int) : Int := if p = 9223372036854775807 ∨ p = -9218868437227405313 then p else if p = 0 ∨ p = -1 then -2 else p - 1
def minP (p q : Int) : Int := if p = 9223372036854775807 ∨ q = 9223372036854775807 then 9223372036854775807 else if q < p then q else p
def maxP (p q : Int) : Int := if p = 9223372036854775807 ∨ q = 9223372036854775807 then 9223372036854775807 else if p < q then q else p

def QN : Nat := 9221120237041090561
theorem pl_QN : pl QN = 9223372036854775807 := by decide
theorem U_QN : U QN := by unfold U; decide
def QR : Nat := 9221120237041090560
theorem pl_QR : pl QR = 9223372036854775807 := by decide
theorem U_QR : U QR := by unfold U; decide

set_option maxRecDepth 100000 in
theorem c135 (w : World) : Calls Tryz.prog 104 #[] w fun e w' => e = .returned (.float .f64 QN) ∧ w = w' := by
  go_enter Tryz.func104, Tryz.ntmps104
  go_wp2
  go_ret
  exact ⟨rfl, rfl⟩
set_option maxRecDepth 100000 in
theorem c139 (w : World) : Calls Tryz.prog 52 #[] w fun e w' => e = .returned (.float .f64 QR) ∧ w = w' := by
  go_enter Tryz.func52, Tryz.ntmps52
  go_wp2
  go_ret
  exact ⟨rfl, rfl⟩

theorem retF {p : Int} {r : Nat} (hu : U r) (h : pl r = p) : RetF p (.returned (.float .f64 r)) := ⟨r, rfl, hu, h⟩

set_option maxRecDepth 100000 in
theorem c83 (x y : Nat) (w : World) (hx : U x) (hy : U y) : Calls Tryz.prog 106 #[.float .f64 x, .float .f64 y] w fun e w' => RetF (minP (pl x) (pl y)) e ∧ w = w' := by
  have e1 := neq_self x hx
  have e2 := neq_self y hy
  have n1 := isN_iff_pl x
  have n2 := isN_iff_pl y
  cases h1 : isN x <;> cases h2 : isN y
  all_goals
    rw [h1] at e1 n1
    rw [h2] at e2 n2
  · by_cases c : pl x ≤ pl y
    all_goals
      have d1 := of_decide_eq_false n1.symm
      have d2 := of_decide_eq_false n2.symm
      clear n1 n2 h1 h2
      go_enter Tryz.func106, Tryz.ntmps106
      go_wp2_with (go_at_call 105; refine (c152 _ _ (by assumption)).mono ?_; rintro e w' ⟨rfl, rfl⟩)
      go_ret
      refine ⟨retF (by assumption) ?_, rfl⟩
      unfold minP
      rw [if_neg (by omega)]
      first | rw [if_pos (by omega)] | rw [if_neg (by omega)]
  all_goals
    have N1 := Lib.hid n1
    have N2 := Lib.hid n2
    clear h1 h2 n1 n2
    go_enter Tryz.func106, Tryz.ntmps106
    go_wp2_with (go_at_call 104; refine (c135 _).mono ?_; rintro e w' ⟨rfl, rfl⟩)
    go_ret
    refine ⟨retF U_QN ?_, rfl⟩
    rw [pl_QN]
    unfold minP
    rw [if_pos]
    first | exact .inl (of_decide_eq_true N1.out.symm) | exact .inr (of_decide_eq_true N2.out.symm)
set_option maxRecDepth 100000 in
theorem c84 (x y : Nat) (w : World) (hx : U x) (hy : U y) : Calls Tryz.prog 47 #[.float .f64 x, .float .f64 y] w fun e w' => RetF (maxP (pl x) (pl y)) e ∧ w = w' := by
  have e1 := neq_self x hx
  have e2 := neq_self y hy
  have n1 := isN_iff_pl x
  have n2 := isN_iff_pl y
  cases h1 : isN x <;> cases h2 : isN y
  all_goals
    rw [h1] at e1 n1
    rw [h2] at e2 n2
  · by_cases c : pl x < pl y
    all_goals
      have d1 := of_decide_eq_false n1.symm
      have d2 := of_decide_eq_false n2.symm
      clear n1 n2 h1 h2
      go_enter Tryz.func47, Tryz.ntmps47
      go_wp2_with (go_at_call 105; refine (c152 _ _ (by assumption)).mono ?_; rintro e w' ⟨rfl, rfl⟩)
      go_ret
      refine ⟨retF (by assumption) ?_, rfl⟩
      unfold maxP
      rw [if_neg (by omega)]
      first | rw [if_pos (by omega)] | rw [if_neg (by omega)]
  all_goals
    have N1 := Lib.hid n1
    have N2 := Lib.hid n2
    clear h1 h2 n1 n2
    go_enter Tryz.func47, Tryz.ntmps47
    go_wp2_with (go_at_call 104; refine (c135 _).mono ?_; rintro e w' ⟨rfl, rfl⟩)
    go_ret
    refine ⟨retF U_QN ?_, rfl⟩
    rw [pl_QN]
    unfold maxP
    rw [if_pos]
    first | exact .inl (of_decide_eq_true N1.out.symm) | exact .inr (of_decide_eq_true N2.out.symm)
set_option maxRecDepth 100000 in
theorem c85 (x y z : Nat) (w : World) (hx : U x) (hy : U y) (hz : U z) : Calls Tryz.prog 49 #[.float .f64 x, .float .f64 y, .float .f64 z] w fun e w' => RetF (maxP (pl x) (minP (pl y) (pl z))) e ∧ w = w' := by
  go_enter Tryz.func49, Tryz.ntmps49
  go_wp2_with (first | (go_at_call 106; refine (c83 _ _ _ (by assumption) (by assumption)).mono ?_; rintro e w' ⟨⟨r, rfl, hr, he⟩, rfl⟩; have He := Lib.hid he; clear he) | (go_at_call 47; refine (c84 _ _ _ (by assumption) (by assumption)).mono ?_; rintro e w' ⟨⟨r2, rfl, hr2, he2⟩, rfl⟩; have He2 := Lib.hid he2; clear he2))
  go_ret
  exact ⟨retF (by assumption) (by rw [He2.out, He.out]), rfl⟩

set_option maxRecDepth 100000 in
theorem c110 (x y : Nat) (w : World) (hx : U x) (hy : U y) : Calls Tryz.prog 25 #[.float .f64 x, .float .f64 y] w fun e w' => RetF (minP (pl x) (pl y)) e ∧ w = w' := by
  have n1 := isN_iff_pl x
  have n2 := isN_iff_pl y
  cases h1 : isN x <;> cases h2 : isN y
  all_goals
    rw [h1] at n1
    rw [h2] at n2
  · by_cases c : pl y < pl x
    all_goals
      have d1 := of_decide_eq_false n1.symm
      have d2 := of_decide_eq_false n2.symm
      clear n1 n2
      go_enter Tryz.func25, Tryz.ntmps25
      go_wp2_with (first | (go_at_call 51; refine (c164 _ _ (by assumption)).mono ?_; rintro e w' ⟨rfl, rfl⟩) | (go_at_call 53; refine (c134 _ _ (by assumption)).mono ?_; rintro e w' ⟨rfl, rfl⟩))
      go_ret
      refine ⟨retF (by assumption) ?_, rfl⟩
      unfold minP
      rw [if_neg (by omega)]
      first | rw [if_pos (by omega)] | rw [if_neg (by omega)]
  all_goals
    have N1 := Lib.hid n1
    have N2 := Lib.hid n2
    clear n1 n2
    go_enter Tryz.func25, Tryz.ntmps25
    go_wp2_with (first | (go_at_call 51; refine (c164 _ _ (by assumption)).mono ?_; rintro e w' ⟨rfl, rfl⟩) | (go_at_call 52; refine (c139 _).mono ?_; rintro e w' ⟨rfl, rfl⟩))
    go_ret
    refine ⟨retF U_QR ?_, rfl⟩
    rw [pl_QR]
    unfold minP
    rw [if_pos]
    first | exact .inl (of_decide_eq_true N1.out.symm) | exact .inr (of_decide_eq_true N2.out.symm)

set_option maxRecDepth 100000 in
theorem c111 (x y : Nat) (w : World) (hx : U x) (hy : U y) : Calls Tryz.prog 23 #[.float .f64 x, .float .f64 y] w fun e w' => RetF (maxP (pl x) (pl y)) e ∧ w = w' := by
  have n1 := isN_iff_pl x
  have n2 := isN_iff_pl y
  cases h1 : isN x <;> cases h2 : isN y
  all_goals
    rw [h1] at n1
    rw [h2] at n2
  · by_cases c : pl x < pl y
    all_goals
      have d1 := of_decide_eq_false n1.symm
      have d2 := of_decide_eq_false n2.symm
      clear n1 n2
      go_enter Tryz.func23, Tryz.ntmps23
      go_wp2_with (first | (go_at_call 51; refine (c164 _ _ (by assumption)).mono ?_; rintro e w' ⟨rfl, rfl⟩) | (go_at_call 53; refine (c134 _ _ (by assumption)).mono ?_; rintro e w' ⟨rfl, rfl⟩))
      go_ret
      refine ⟨retF (by assumption) ?_, rfl⟩
      unfold maxP
      rw [if_neg (by omega)]
      first | rw [if_pos (by omega)] | rw [if_neg (by omega)]
  all_goals
    have N1 := Lib.hid n1
    have N2 := Lib.hid n2
    clear n1 n2
    go_enter Tryz.func23, Tryz.ntmps23
    go_wp2_with (first | (go_at_call 51; refine (c164 _ _ (by assumption)).mono ?_; rintro e w' ⟨rfl, rfl⟩) | (go_at_call 52; refine (c139 _).mono ?_; rintro e w' ⟨rfl, rfl⟩))
    go_ret
    refine ⟨retF U_QR ?_, rfl⟩
    rw [pl_QR]
    unfold maxP
    rw [if_pos]
    first | exact .inl (of_decide_eq_true N1.out.symm) | exact .inr (of_decide_eq_true N2.out.symm)

theorem U_MAX : U 9218868437227405311 := by unfold U; decide
theorem pl_MAX : pl 9218868437227405311 = 9218868437227405311 := by decide
theorem U_0 : U 0 := by unfold U; decide
theorem pl_0 : pl 0 = 0 := by decide
theorem pl_one : pl 1 = 1 := by decide
theorem U_one : U 1 := by unfold U; decide

/-- a word of a place that is told -/
theorem word_of_pl (x : Nat) (hx : U x) (hn : isN x = false) : (0 ≤ pl x ∧ (x : Int) = pl x) ∨ (pl x < 0 ∧ (x : Int) = 9223372036854775807 - pl x) := by
  have hl := rg_lt x
  cases hs : sg x
  · left; rw [pl_pos hn hs, rg_of_not hs]; omega
  · right; rw [pl_neg hn hs]; have := rg_of_sg hx hs; have := (sg_iff x).1 hs; omega
theorem pl_of_pos (x : Nat) (h : x ≤ 9218868437227405312) : pl x = (x : Int) := by
  have := pl_word false x h
  simpa [word] using this
theorem pl_of_neg (x : Nat) (h1 : 9223372036854775808 ≤ x) (h : x ≤ 18442240474082181120) : pl x = 9223372036854775807 - (x : Int) := by
  have := pl_word true (x - 9223372036854775808) (by unfold INF; omega)
  rw [show word true (x - 9223372036854775808) = x by simp [word]; omega] at this
  rw [this, if_pos rfl]; omega

theorem prevP_eq (p : Int) (h : p = 9223372036854775807 ∨ (-9218868437227405313 ≤ p ∧ p ≤ 9218868437227405312)) : ngP (nextP (ngP p)) = prevP p := by
  by_cases h1 : p = 9223372036854775807
  · subst h1; decide
  by_cases h2 : p = -9218868437227405313
  · subst h2; decide
  by_cases h3 : p = 0
  · subst h3; decide
  by_cases h4 : p = -1
  · subst h4; decide
  have e1 : ngP p = -1 - p := if_neg h1
  have a1 : ¬ (-1 - p = 9223372036854775807 ∨ -1 - p = 9218868437227405312) := by omega
  have a2 : ¬ (-1 - p = 0 ∨ -1 - p = -1) := by omega
  have e2 : nextP (-1 - p) = -1 - p + 1 := by unfold nextP; rw [if_neg a1, if_neg a2]
  have a3 : ¬ (-1 - p + 1 = 9223372036854775807) := by omega
  have a4 : ¬ (p = 9223372036854775807 ∨ p = -9218868437227405313) := by omega
  have a5 : ¬ (p = 0 ∨ p = -1) := by omega
  rw [e1, e2]
  unfold ngP prevP
  rw [if_neg a3, if_neg a4, if_neg a5]
  omega

end Go.Proofs.YtphoggimeaejnaaGreatDoor
