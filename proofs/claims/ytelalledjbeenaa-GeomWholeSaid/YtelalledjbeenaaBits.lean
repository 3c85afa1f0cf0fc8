/- The walks of package bits and of its reference: order, neighbours, parts. -/
import Derived.Test.YtelalledjbeenaaBase
namespace Go.Proofs.Ytelalledjbeenaa
open Go.RowKit Fl

theorem sg_word_cmp (x : Nat) (h : U x) : bits .and .u64 (x : Int) 9223372036854775808 = if sg x then 9223372036854775808 else 0 := b_sign x h
theorem inf_lt (x : Nat) : ((INF : Int) < (rg x : Int)) = (isN x = true) := by
  unfold isN; simp

set_option maxRecDepth 100000 in
theorem c134 (x : Nat) (w : World) (hx : U x) : Calls Try.prog 134 #[.float .f64 x] w fun e w' => e = .returned (.int .i64 (pl x)) ∧ w = w' := by
  have h1 := b_sign x hx
  have h2 := b_mag x hx
  have hlt := rg_lt x
  have h3 : wrap64 (rg x : Int) = (rg x : Int) := by unfold wrap64; omega
  cases hn : isN x
  · have hr := isN_false hn
    unfold INF at hr
    cases hs : sg x
    · rw [pl_pos hn hs]
      rw [hs, if_neg (by decide)] at h1
      have h4 : ¬ (9218868437227405312 : Int) < (rg x : Int) := by omega
      clear hlt hr
      go_enter Try.func134, Try.ntmps134
      go_wp2
      go_ret
      exact ⟨rfl, rfl⟩
    · rw [pl_neg hn hs]
      rw [hs, if_pos rfl] at h1
      have h4 : ¬ (9218868437227405312 : Int) < (rg x : Int) := by omega
      have h5 : wrap64 (-(rg x : Int)) = -(rg x : Int) := by unfold wrap64; omega
      have h6 : wrap64 (-(rg x : Int) - 1) = -(rg x : Int) - 1 := by unfold wrap64; omega
      clear hlt hr
      go_enter Try.func134, Try.ntmps134
      go_wp2
      go_ret
      exact ⟨rfl, rfl⟩
  · have hr := isN_true hn
    unfold INF at hr
    rw [pl_nan hn]
    have h4 : (9218868437227405312 : Int) < (rg x : Int) := by omega
    clear hlt hr h1
    go_enter Try.func134, Try.ntmps134
    go_wp2
    go_ret
    exact ⟨rfl, rfl⟩

set_option maxRecDepth 100000 in
theorem c164 (x : Nat) (w : World) (hx : U x) : Calls Try.prog 164 #[.float .f64 x] w fun e w' => e = .returned (.bool (isN x)) ∧ w = w' := by
  have h2 := b_mag x hx
  go_enter Try.func164, Try.ntmps164
  go_wp2
  go_ret
  refine ⟨?_, rfl⟩
  unfold isN INF
  simp; omega

set_option maxRecDepth 100000 in
theorem c59 (x : Nat) (w : World) (hx : U x) : Calls Try.prog 59 #[.float .f64 x] w fun e w' => e = .returned (.bool (fin x)) ∧ w = w' := by
  have h2 := b_mag x hx
  go_enter Try.func59, Try.ntmps59
  go_wp2
  go_ret
  refine ⟨?_, rfl⟩
  unfold fin INF
  simp; omega

set_option maxRecDepth 100000 in
theorem c32 (x y : Nat) (w : World) (hx : U x) (hy : U y) : Calls Try.prog 32 #[.float .f64 x, .float .f64 y] w fun e w' => e = .returned (.bool (pl x == pl y)) ∧ w = w' := by
  go_enter Try.func32, Try.ntmps32
  go_wp2_with (go_at_call 134; refine (c134 _ _ (by assumption)).mono ?_; rintro e w' ⟨rfl, rfl⟩)
  go_ret
  exact ⟨rfl, rfl⟩

theorem same_bits {x y : Nat} (hx : U x) (hy : U y) : ((x == y) || (isN x && isN y)) = (pl x == pl y) := by
  have := pl_eq_iff hx hy
  rw [Bool.eq_iff_iff]; simp [this]
theorem feq_self {x : Nat} : feqP (pl x) (pl x) = !isN x := by
  rw [isN_iff_pl, Bool.eq_iff_iff]; simp [feqP]

set_option maxRecDepth 100000 in
theorem c44 (x y : Nat) (w : World) (hx : U x) (hy : U y) : Calls Try.prog 44 #[.float .f64 x, .float .f64 y] w fun e w' => e = .returned (.bool (pl x == pl y)) ∧ w = w' := by
  have h := same_bits hx hy
  have e1 := neq_self x hx
  have e2 := neq_self y hy
  have e3 : ((x : Int) == (y : Int)) = (x == y) := by rw [Bool.eq_iff_iff]; simp; omega
  rw [← h]
  clear h
  cases h1 : (x == y) <;> cases h2 : isN x <;> cases h3 : isN y
  all_goals
    rw [h2] at e1
    rw [h3] at e2
    rw [h1] at e3
    clear h1 h2 h3
    go_enter Try.func44, Try.ntmps44
    go_wp2
    go_ret
    exact ⟨rfl, rfl⟩

def cmpZ (a b : Int) : Int := if a < b then -1 else if b < a then 1 else 0

set_option maxRecDepth 100000 in
theorem c69 (x y : Nat) (w : World) (hx : U x) (hy : U y) : Calls Try.prog 69 #[.float .f64 x, .float .f64 y] w fun e w' => e = .returned (.int .i64 (cmpZ (pl x) (pl y))) ∧ w = w' := by
  go_enter Try.func69, Try.ntmps69
  go_wp2_with (go_at_call 152; refine (c152 _ _ (by assumption)).mono ?_; rintro e w' ⟨rfl, rfl⟩)
  all_goals
    go_ret
    refine ⟨ret_int ?_, rfl⟩
    unfold cmpZ
    repeat (first | rw [if_pos (by omega)] | rw [if_neg (by omega)])

set_option maxRecDepth 100000 in
theorem c107 (x y : Nat) (w : World) (hx : U x) (hy : U y) : Calls Try.prog 107 #[.float .f64 x, .float .f64 y] w fun e w' => e = .returned (.int .i64 (cmpZ (pl x) (pl y))) ∧ w = w' := by
  go_enter Try.func107, Try.ntmps107
  go_wp2_with (go_at_call 134; refine (c134 _ _ (by assumption)).mono ?_; rintro e w' ⟨rfl, rfl⟩)
  all_goals
    go_ret
    refine ⟨ret_int ?_, rfl⟩
    unfold cmpZ
    repeat (first | rw [if_pos (by omega)] | rw [if_neg (by omega)])

theorem b_or (r : Nat) (h : r < 9223372036854775808) : bits .or .u64 (r : Int) 9223372036854775808 = ((9223372036854775808 + r : Nat) : Int) := by
  rw [show (9223372036854775808 : Int) = ((9223372036854775808 : Nat) : Int) from rfl, u64_or_nat _ _ (by omega) (by omega)]
  congr 1
  rw [Nat.or_comm]
  exact nat_join 63 (2 ^ 63) r (by decide) h

set_option maxRecDepth 100000 in
theorem c136 (r : Nat) (neg : Bool) (w : World) (h : r < 9223372036854775808) : Calls Try.prog 136 #[.float .f64 r, .bool neg] w fun e w' => e = .returned (.float .f64 (word neg r)) ∧ w = w' := by
  have h1 := b_or r h
  clear h
  cases neg
  all_goals
    go_enter Try.func136, Try.ntmps136
    go_wp2
    go_ret
    exact ⟨rfl, rfl⟩
set_option maxRecDepth 100000 in
theorem c140 (r : Nat) (neg : Bool) (w : World) (h : r < 9223372036854775808) : Calls Try.prog 140 #[.bool neg, .int .u64 r] w fun e w' => e = .returned (.float .f64 (word neg r)) ∧ w = w' := by
  have h1 := b_or r h
  clear h
  cases neg
  all_goals
    go_enter Try.func140, Try.ntmps140
    go_wp2
    go_ret
    exact ⟨rfl, rfl⟩

def atW (k : Int) : Nat := if k < 0 then word true (-(k + 1)).toNat else word false k.toNat
theorem pl_atW (k : Int) (h1 : -9218868437227405313 ≤ k) (h2 : k ≤ 9218868437227405312) : pl (atW k) = k := by
  unfold atW
  split
  · rw [pl_word _ _ (by unfold INF; omega), if_pos rfl]; omega
  · rw [pl_word _ _ (by unfold INF; omega), if_neg (by decide)]; omega
theorem U_atW (k : Int) (h1 : -9223372036854775808 ≤ k) (h2 : k ≤ 9223372036854775807) : U (atW k) := by
  unfold atW
  split <;> exact U_word _ _ (by omega)

set_option maxRecDepth 100000 in
theorem c165 (k : Int) (w : World) (h1 : -9223372036854775808 ≤ k) (h2 : k ≤ 9223372036854775807) : Calls Try.prog 165 #[.int .i64 k] w fun e w' => e = .returned (.float .f64 (atW k)) ∧ w = w' := by
  unfold atW
  by_cases hk : k < 0
  · rw [if_pos hk]
    obtain ⟨r, hr⟩ : ∃ r : Nat, r = (-(k + 1)).toNat := ⟨_, rfl⟩
    have e1 : wrap64 (k + 1) = -(r : Int) := by unfold wrap64; omega
    have e2 : wrap64 (r : Int) = (r : Int) := by unfold wrap64; omega
    have e3 : IntKind.u64.wrap (r : Int) = (r : Int) := by rw [IntKind.wrap_u64]; omega
    have hl : r < 9223372036854775808 := by omega
    rw [← hr]
    clear hr h1 h2
    go_enter Try.func165, Try.ntmps165
    go_wp2_with (go_at_call 140; refine (c140 _ _ _ hl).mono ?_; rintro e w' ⟨rfl, rfl⟩)
    go_ret
    exact ⟨rfl, rfl⟩
  · rw [if_neg hk]
    obtain ⟨r, rfl⟩ := Int.eq_ofNat_of_zero_le (show 0 ≤ k by omega)
    have e3 : IntKind.u64.wrap (r : Int) = (r : Int) := by rw [IntKind.wrap_u64]; omega
    have hl : r < 9223372036854775808 := by omega
    rw [Int.toNat_natCast]
    clear h1 h2
    go_enter Try.func165, Try.ntmps165
    go_wp2_with (go_at_call 140; refine (c140 _ _ _ hl).mono ?_; rintro e w' ⟨rfl, rfl⟩)
    go_ret
    exact ⟨rfl, rfl⟩

def nextP (p : Int) : Int := if p = 9223372036854775807 ∨ p = 9218868437227405312 then p else if p = 0 ∨ p = -1 then 1 else p + 1
def prevP (p : Int) : Int := if p = 9223372036854775807 ∨ p = -9218868437227405313 then p else if p = 0 ∨ p = -1 then -2 else p - 1
def minP (p q : Int) : Int := if p = 9223372036854775807 ∨ q = 9223372036854775807 then 9223372036854775807 else if q < p then q else p
def maxP (p q : Int) : Int := if p = 9223372036854775807 ∨ q = 9223372036854775807 then 9223372036854775807 else if p < q then q else p

def QN : Nat := 9221120237041090561
theorem pl_QN : pl QN = 9223372036854775807 := by decide
theorem U_QN : U QN := by unfold U; decide
def QR : Nat := 9221120237041090560
theorem pl_QR : pl QR = 9223372036854775807 := by decide
theorem U_QR : U QR := by unfold U; decide

set_option maxRecDepth 100000 in
theorem c135 (w : World) : Calls Try.prog 135 #[] w fun e w' => e = .returned (.float .f64 QN) ∧ w = w' := by
  go_enter Try.func135, Try.ntmps135
  go_wp2
  go_ret
  exact ⟨rfl, rfl⟩
set_option maxRecDepth 100000 in
theorem c139 (w : World) : Calls Try.prog 139 #[] w fun e w' => e = .returned (.float .f64 QR) ∧ w = w' := by
  go_enter Try.func139, Try.ntmps139
  go_wp2
  go_ret
  exact ⟨rfl, rfl⟩

theorem retF {p : Int} {r : Nat} (hu : U r) (h : pl r = p) : RetF p (.returned (.float .f64 r)) := ⟨r, rfl, hu, h⟩

set_option maxRecDepth 100000 in
theorem c83 (x y : Nat) (w : World) (hx : U x) (hy : U y) : Calls Try.prog 83 #[.float .f64 x, .float .f64 y] w fun e w' => RetF (minP (pl x) (pl y)) e ∧ w = w' := by
  have e1 := neq_self x hx
  have e2 := neq_self y hy
  have n1 := isN_iff_pl x
  have n2 := isN_iff_pl y
  cases h1 : isN x <;> cases h2 : isN y
  all_goals
    rw [h1] at e1 n1
    rw [h2] at e2 n2
  · by_cases c : pl x ≤ pl y
    all_goals
      have d1 := of_decide_eq_false n1.symm
      have d2 := of_decide_eq_false n2.symm
      clear n1 n2 h1 h2
      go_enter Try.func83, Try.ntmps83
      go_wp2_with (go_at_call 152; refine (c152 _ _ (by assumption)).mono ?_; rintro e w' ⟨rfl, rfl⟩)
      go_ret
      refine ⟨retF (by assumption) ?_, rfl⟩
      unfold minP
      rw [if_neg (by omega)]
      first | rw [if_pos (by omega)] | rw [if_neg (by omega)]
  all_goals
    have N1 := Lib.hid n1
    have N2 := Lib.hid n2
    clear h1 h2 n1 n2
    go_enter Try.func83, Try.ntmps83
    go_wp2_with (go_at_call 135; refine (c135 _).mono ?_; rintro e w' ⟨rfl, rfl⟩)
    go_ret
    refine ⟨retF U_QN ?_, rfl⟩
    rw [pl_QN]
    unfold minP
    rw [if_pos]
    first | exact .inl (of_decide_eq_true N1.out.symm) | exact .inr (of_decide_eq_true N2.out.symm)
set_option maxRecDepth 100000 in
theorem c84 (x y : Nat) (w : World) (hx : U x) (hy : U y) : Calls Try.prog 84 #[.float .f64 x, .float .f64 y] w fun e w' => RetF (maxP (pl x) (pl y)) e ∧ w = w' := by
  have e1 := neq_self x hx
  have e2 := neq_self y hy
  have n1 := isN_iff_pl x
  have n2 := isN_iff_pl y
  cases h1 : isN x <;> cases h2 : isN y
  all_goals
    rw [h1] at e1 n1
    rw [h2] at e2 n2
  · by_cases c : pl x < pl y
    all_goals
      have d1 := of_decide_eq_false n1.symm
      have d2 := of_decide_eq_false n2.symm
      clear n1 n2 h1 h2
      go_enter Try.func84, Try.ntmps84
      go_wp2_with (go_at_call 152; refine (c152 _ _ (by assumption)).mono ?_; rintro e w' ⟨rfl, rfl⟩)
      go_ret
      refine ⟨retF (by assumption) ?_, rfl⟩
      unfold maxP
      rw [if_neg (by omega)]
      first | rw [if_pos (by omega)] | rw [if_neg (by omega)]
  all_goals
    have N1 := Lib.hid n1
    have N2 := Lib.hid n2
    clear h1 h2 n1 n2
    go_enter Try.func84, Try.ntmps84
    go_wp2_with (go_at_call 135; refine (c135 _).mono ?_; rintro e w' ⟨rfl, rfl⟩)
    go_ret
    refine ⟨retF U_QN ?_, rfl⟩
    rw [pl_QN]
    unfold maxP
    rw [if_pos]
    first | exact .inl (of_decide_eq_true N1.out.symm) | exact .inr (of_decide_eq_true N2.out.symm)
set_option maxRecDepth 100000 in
theorem c85 (x y z : Nat) (w : World) (hx : U x) (hy : U y) (hz : U z) : Calls Try.prog 85 #[.float .f64 x, .float .f64 y, .float .f64 z] w fun e w' => RetF (maxP (pl x) (minP (pl y) (pl z))) e ∧ w = w' := by
  go_enter Try.func85, Try.ntmps85
  go_wp2_with (first | (go_at_call 83; refine (c83 _ _ _ (by assumption) (by assumption)).mono ?_; rintro e w' ⟨⟨r, rfl, hr, he⟩, rfl⟩; have He := Lib.hid he; clear he) | (go_at_call 84; refine (c84 _ _ _ (by assumption) (by assumption)).mono ?_; rintro e w' ⟨⟨r2, rfl, hr2, he2⟩, rfl⟩; have He2 := Lib.hid he2; clear he2))
  go_ret
  exact ⟨retF (by assumption) (by rw [He2.out, He.out]), rfl⟩

set_option maxRecDepth 100000 in
theorem c110 (x y : Nat) (w : World) (hx : U x) (hy : U y) : Calls Try.prog 110 #[.float .f64 x, .float .f64 y] w fun e w' => RetF (minP (pl x) (pl y)) e ∧ w = w' := by
  have n1 := isN_iff_pl x
  have n2 := isN_iff_pl y
  cases h1 : isN x <;> cases h2 : isN y
  all_goals
    rw [h1] at n1
    rw [h2] at n2
  · by_cases c : pl y < pl x
    all_goals
      have d1 := of_decide_eq_false n1.symm
      have d2 := of_decide_eq_false n2.symm
      clear n1 n2
      go_enter Try.func110, Try.ntmps110
      go_wp2_with (first | (go_at_call 164; refine (c164 _ _ (by assumption)).mono ?_; rintro e w' ⟨rfl, rfl⟩) | (go_at_call 134; refine (c134 _ _ (by assumption)).mono ?_; rintro e w' ⟨rfl, rfl⟩))
      go_ret
      refine ⟨retF (by assumption) ?_, rfl⟩
      unfold minP
      rw [if_neg (by omega)]
      first | rw [if_pos (by omega)] | rw [if_neg (by omega)]
  all_goals
    have N1 := Lib.hid n1
    have N2 := Lib.hid n2
    clear n1 n2
    go_enter Try.func110, Try.ntmps110
    go_wp2_with (first | (go_at_call 164; refine (c164 _ _ (by assumption)).mono ?_; rintro e w' ⟨rfl, rfl⟩) | (go_at_call 139; refine (c139 _).mono ?_; rintro e w' ⟨rfl, rfl⟩))
    go_ret
    refine ⟨retF U_QR ?_, rfl⟩
    rw [pl_QR]
    unfold minP
    rw [if_pos]
    first | exact .inl (of_decide_eq_true N1.out.symm) | exact .inr (of_decide_eq_true N2.out.symm)

set_option maxRecDepth 100000 in
theorem c111 (x y : Nat) (w : World) (hx : U x) (hy : U y) : Calls Try.prog 111 #[.float .f64 x, .float .f64 y] w fun e w' => RetF (maxP (pl x) (pl y)) e ∧ w = w' := by
  have n1 := isN_iff_pl x
  have n2 := isN_iff_pl y
  cases h1 : isN x <;> cases h2 : isN y
  all_goals
    rw [h1] at n1
    rw [h2] at n2
  · by_cases c : pl x < pl y
    all_goals
      have d1 := of_decide_eq_false n1.symm
      have d2 := of_decide_eq_false n2.symm
      clear n1 n2
      go_enter Try.func111, Try.ntmps111
      go_wp2_with (first | (go_at_call 164; refine (c164 _ _ (by assumption)).mono ?_; rintro e w' ⟨rfl, rfl⟩) | (go_at_call 134; refine (c134 _ _ (by assumption)).mono ?_; rintro e w' ⟨rfl, rfl⟩))
      go_ret
      refine ⟨retF (by assumption) ?_, rfl⟩
      unfold maxP
      rw [if_neg (by omega)]
      first | rw [if_pos (by omega)] | rw [if_neg (by omega)]
  all_goals
    have N1 := Lib.hid n1
    have N2 := Lib.hid n2
    clear n1 n2
    go_enter Try.func111, Try.ntmps111
    go_wp2_with (first | (go_at_call 164; refine (c164 _ _ (by assumption)).mono ?_; rintro e w' ⟨rfl, rfl⟩) | (go_at_call 139; refine (c139 _).mono ?_; rintro e w' ⟨rfl, rfl⟩))
    go_ret
    refine ⟨retF U_QR ?_, rfl⟩
    rw [pl_QR]
    unfold maxP
    rw [if_pos]
    first | exact .inl (of_decide_eq_true N1.out.symm) | exact .inr (of_decide_eq_true N2.out.symm)

set_option maxRecDepth 100000 in
theorem c112 (x y z : Nat) (w : World) (hx : U x) (hy : U y) (hz : U z) : Calls Try.prog 112 #[.float .f64 x, .float .f64 y, .float .f64 z] w fun e w' => RetF (maxP (pl x) (minP (pl y) (pl z))) e ∧ w = w' := by
  go_enter Try.func112, Try.ntmps112
  go_wp2_with (first | (go_at_call 110; refine (c110 _ _ _ (by assumption) (by assumption)).mono ?_; rintro e w' ⟨⟨r, rfl, hr, he⟩, rfl⟩; have He := Lib.hid he; clear he) | (go_at_call 111; refine (c111 _ _ _ (by assumption) (by assumption)).mono ?_; rintro e w' ⟨⟨r2, rfl, hr2, he2⟩, rfl⟩; have He2 := Lib.hid he2; clear he2))
  go_ret
  exact ⟨retF (by assumption) (by rw [He2.out, He.out]), rfl⟩

theorem U_MAX : U 9218868437227405311 := by unfold U; decide
theorem pl_MAX : pl 9218868437227405311 = 9218868437227405311 := by decide
theorem U_0 : U 0 := by unfold U; decide
theorem pl_0 : pl 0 = 0 := by decide
theorem pl_one : pl 1 = 1 := by decide
theorem U_one : U 1 := by unfold U; decide

/-- a word of a place that is told -/
theorem word_of_pl (x : Nat) (hx : U x) (hn : isN x = false) : (0 ≤ pl x ∧ (x : Int) = pl x) ∨ (pl x < 0 ∧ (x : Int) = 9223372036854775807 - pl x) := by
  have hl := rg_lt x
  cases hs : sg x
  · left; rw [pl_pos hn hs, rg_of_not hs]; omega
  · right; rw [pl_neg hn hs]; have := rg_of_sg hx hs; have := (sg_iff x).1 hs; omega
theorem pl_of_pos (x : Nat) (h : x ≤ 9218868437227405312) : pl x = (x : Int) := by
  have := pl_word false x h
  simpa [word] using this
theorem pl_of_neg (x : Nat) (h1 : 9223372036854775808 ≤ x) (h : x ≤ 18442240474082181120) : pl x = 9223372036854775807 - (x : Int) := by
  have := pl_word true (x - 9223372036854775808) (by unfold INF; omega)
  rw [show word true (x - 9223372036854775808) = x by simp [word]; omega] at this
  rw [this, if_pos rfl]; omega

set_option maxRecDepth 100000 in
theorem c70 (x : Nat) (w : World) (hx : U x) : Calls Try.prog 70 #[.float .f64 x] w fun e w' => RetF (nextP (pl x)) e ∧ w = w' := by
  have e1 := neq_self x hx
  have e2 := f_gt x 9218868437227405311 hx U_MAX
  have e3 := f_eq x 0 hx U_0
  have e4 := f_gt x 0 hx U_0
  rw [pl_MAX] at e2
  rw [pl_0] at e3 e4
  have n1 := isN_iff_pl x
  rw [n1] at e1
  clear n1
  have hr := pl_range x
  by_cases h1 : pl x = 9223372036854775807
  · rw [h1] at e1
    have H := Lib.hid h1
    clear h1 hr e2 e3 e4
    have e1' : (FloatKind.f64.format.order x x != some Ordering.eq) = true := e1
    clear e1
    go_enter Try.func70, Try.ntmps70
    go_wp2
    go_ret
    exact ⟨retF hx (by rw [H.out]; rfl), rfl⟩
  have e1' : (FloatKind.f64.format.order x x != some Ordering.eq) = false := by rw [e1]; exact decide_eq_false h1
  clear e1
  have hn : isN x = false := by rw [isN_iff_pl]; exact decide_eq_false h1
  have hw := word_of_pl x hx hn
  by_cases h2 : pl x = 9218868437227405312
  · have e2' : (FloatKind.f64.format.order x 9218868437227405311 == some Ordering.gt) = true := by rw [e2, h2]; decide
    have H := Lib.hid h2
    clear h2 hr e2 e3 e4 h1 hn hw
    go_enter Try.func70, Try.ntmps70
    go_wp2
    go_ret
    exact ⟨retF hx (by rw [H.out]; rfl), rfl⟩
  have e2' : (FloatKind.f64.format.order x 9218868437227405311 == some Ordering.gt) = false := by
    rw [e2]; simp [fltP, zk]; omega
  clear e2
  by_cases h3 : pl x = 0 ∨ pl x = -1
  · have e3' : (FloatKind.f64.format.order x 0 == some Ordering.eq) = true := by
      rw [e3]; simp [feqP, zk]; omega
    have H : Hid (nextP (pl x) = 1) := by
      have : nextP (pl x) = 1 := by unfold nextP; rw [if_neg (by omega), if_pos h3]
      exact Lib.hid this
    clear h1 h2 h3 hr e3 e4 hn hw
    go_enter Try.func70, Try.ntmps70
    go_wp2
    go_ret
    exact ⟨retF U_one (by rw [H.out]; exact pl_one), rfl⟩
  have e3' : (FloatKind.f64.format.order x 0 == some Ordering.eq) = false := by
    rw [e3]; simp [feqP, zk]; omega
  clear e3
  have hp : nextP (pl x) = pl x + 1 := by unfold nextP; rw [if_neg (by omega), if_neg h3]
  have hxl := hx.lt
  by_cases h4 : 0 < pl x
  · have e4' : (FloatKind.f64.format.order x 0 == some Ordering.gt) = true := by
      rw [e4]; simp [fltP, zk]; omega
    have hq : pl (x + 1) = pl x + 1 := by rw [pl_of_pos (x + 1) (by omega)]; omega
    have hu : U (x + 1) := by unfold U; omega
    have hwr : ((x : Int) + 1) % 18446744073709551616 = ((x + 1 : Nat) : Int) := by omega
    have H := Lib.hid (hq.trans hp.symm)
    clear e4 h1 h2 h3 h4 hn hr hw hp hq hxl
    go_enter Try.func70, Try.ntmps70
    go_wp2
    go_ret
    exact ⟨retF hu H.out, rfl⟩
  · have e4' : (FloatKind.f64.format.order x 0 == some Ordering.gt) = false := by
      rw [e4]; simp [fltP, zk]; omega
    have hq : pl (x - 1) = pl x + 1 := by
      rw [pl_of_neg (x - 1) (by omega) (by omega)]; omega
    have hu : U (x - 1) := by unfold U; omega
    have hwr : ((x : Int) - 1) % 18446744073709551616 = ((x - 1 : Nat) : Int) := by omega
    have H := Lib.hid (hq.trans hp.symm)
    clear e4 h1 h2 h3 h4 hn hr hw hp hq hxl
    go_enter Try.func70, Try.ntmps70
    go_wp2
    go_ret
    exact ⟨retF hu H.out, rfl⟩

theorem prevP_eq (p : Int) (h : p = 9223372036854775807 ∨ (-9218868437227405313 ≤ p ∧ p ≤ 9218868437227405312)) : ngP (nextP (ngP p)) = prevP p := by
  by_cases h1 : p = 9223372036854775807
  · subst h1; decide
  by_cases h2 : p = -9218868437227405313
  · subst h2; decide
  by_cases h3 : p = 0
  · subst h3; decide
  by_cases h4 : p = -1
  · subst h4; decide
  have e1 : ngP p = -1 - p := if_neg h1
  have a1 : ¬ (-1 - p = 9223372036854775807 ∨ -1 - p = 9218868437227405312) := by omega
  have a2 : ¬ (-1 - p = 0 ∨ -1 - p = -1) := by omega
  have e2 : nextP (-1 - p) = -1 - p + 1 := by unfold nextP; rw [if_neg a1, if_neg a2]
  have a3 : ¬ (-1 - p + 1 = 9223372036854775807) := by omega
  have a4 : ¬ (p = 9223372036854775807 ∨ p = -9218868437227405313) := by omega
  have a5 : ¬ (p = 0 ∨ p = -1) := by omega
  rw [e1, e2]
  unfold ngP prevP
  rw [if_neg a3, if_neg a4, if_neg a5]
  omega

set_option maxRecDepth 100000 in
theorem c71 (x : Nat) (w : World) (hx : U x) : Calls Try.prog 71 #[.float .f64 x] w fun e w' => RetF (prevP (pl x)) e ∧ w = w' := by
  have h := Lib.hid (pl_ng hx)
  have hu : U (Op.negFloat .f64 x) := U_ng hx
  have hneg : ∀ (b : Nat) (w : World), (Op.unary .neg (.float .f64 b)).run Try.prog w = .ok (.float .f64 (Op.negFloat .f64 b)) w := fun _ _ => rfl
  go_enter Try.func71, Try.ntmps71
  go_wp2_with (go_at_call 70; refine (c70 _ _ (by assumption)).mono ?_; rintro e w' ⟨⟨r, rfl, hr, he⟩, rfl⟩; have He := Lib.hid he; clear he)
  go_ret
  refine ⟨retF (U_ng hr) ?_, rfl⟩
  have he := He.out
  have e1 : pl (ng r) = ngP (pl r) := pl_ng hr
  have e2 : pl (ng x) = ngP (pl x) := h.out
  show pl (ng r) = _
  rw [e1, he]
  show ngP (nextP (pl (ng x))) = _
  rw [e2, prevP_eq _ (pl_range x)]

set_option maxRecDepth 100000 in
theorem c108 (x : Nat) (w : World) (hx : U x) : Calls Try.prog 108 #[.float .f64 x] w fun e w' => RetF (nextP (pl x)) e ∧ w = w' := by
  have hb := b_mag x hx
  have n1 := isN_iff_pl x
  have hr := pl_range x
  have hxl := hx.lt
  cases hn : isN x
  · rw [hn] at n1
    have d1 := of_decide_eq_false n1.symm
    clear n1
    have hw := word_of_pl x hx hn
    by_cases h2 : pl x = 9218868437227405312
    · have e1 : ((x : Int) == 9218868437227405312) = true := by simp; omega
      have H := Lib.hid h2
      clear h2 hr hw d1 hxl
      go_enter Try.func108, Try.ntmps108
      go_wp2_with (go_at_call 164; refine (c164 _ _ (by assumption)).mono ?_; rintro e w' ⟨rfl, rfl⟩)
      go_ret
      exact ⟨retF hx (by rw [H.out]; rfl), rfl⟩
    have e1 : ((x : Int) == 9218868437227405312) = false := by simp; omega
    by_cases h3 : pl x = 0 ∨ pl x = -1
    · have e2 : ((rg x : Int) == 0) = true := by
        have : rg x = 0 := by
          cases hs : sg x
          · rw [pl_pos hn hs] at h3; omega
          · rw [pl_neg hn hs] at h3; omega
        simp [this]
      have H : Hid (nextP (pl x) = 1) := by
        have : nextP (pl x) = 1 := by unfold nextP; rw [if_neg (by omega), if_pos h3]
        exact Lib.hid this
      clear h2 h3 hr hw d1 hxl
      go_enter Try.func108, Try.ntmps108
      go_wp2_with (first | (go_at_call 164; refine (c164 _ _ (by assumption)).mono ?_; rintro e w' ⟨rfl, rfl⟩) | (go_at_call 165; refine (c165 _ _ (by decide) (by decide)).mono ?_; rintro e w' ⟨rfl, rfl⟩))
      go_ret
      exact ⟨retF (U_atW _ (by decide) (by decide)) (by rw [H.out]; exact pl_atW _ (by decide) (by decide)), rfl⟩
    · have e2 : ((rg x : Int) == 0) = false := by
        have : rg x ≠ 0 := by
          cases hs : sg x
          · rw [pl_pos hn hs] at h3; omega
          · rw [pl_neg hn hs] at h3; omega
        simp [this]
      have H : Hid (nextP (pl x) = pl x + 1) := by
        have : nextP (pl x) = pl x + 1 := by unfold nextP; rw [if_neg (by omega), if_neg h3]
        exact Lib.hid this
      have b1 : -9218868437227405313 ≤ pl x + 1 := by omega
      have b2 : pl x + 1 ≤ 9218868437227405312 := by omega
      clear h2 h3 hr hw d1 hxl
      go_enter Try.func108, Try.ntmps108
      go_wp2_with (first | (go_at_call 164; refine (c164 _ _ (by assumption)).mono ?_; rintro e w' ⟨rfl, rfl⟩) | (go_at_call 134; refine (c134 _ _ (by assumption)).mono ?_; rintro e w' ⟨rfl, rfl⟩) | (go_at_call 165; refine (c165 _ _ (by omega) (by omega)).mono ?_; rintro e w' ⟨rfl, rfl⟩))
      go_ret
      exact ⟨retF (U_atW _ (by omega) (by omega)) (by rw [H.out]; exact pl_atW _ b1 b2), rfl⟩
  · have H := Lib.hid (pl_nan hn)
    clear n1 hr hxl
    go_enter Try.func108, Try.ntmps108
    go_wp2_with (go_at_call 164; refine (c164 _ _ (by assumption)).mono ?_; rintro e w' ⟨rfl, rfl⟩)
    go_ret
    exact ⟨retF hx (by rw [H.out]; rfl), rfl⟩

set_option maxRecDepth 100000 in
theorem c109 (x : Nat) (w : World) (hx : U x) : Calls Try.prog 109 #[.float .f64 x] w fun e w' => RetF (prevP (pl x)) e ∧ w = w' := by
  have hb := b_mag x hx
  have n1 := isN_iff_pl x
  have hr := pl_range x
  have hxl := hx.lt
  cases hn : isN x
  · rw [hn] at n1
    have d1 := of_decide_eq_false n1.symm
    clear n1
    have hw := word_of_pl x hx hn
    by_cases h2 : pl x = -9218868437227405313
    · have e1 : ((x : Int) == 18442240474082181120) = true := by simp; omega
      have H := Lib.hid h2
      clear h2 hr hw d1 hxl
      go_enter Try.func109, Try.ntmps109
      go_wp2_with (go_at_call 164; refine (c164 _ _ (by assumption)).mono ?_; rintro e w' ⟨rfl, rfl⟩)
      go_ret
      exact ⟨retF hx (by rw [H.out]; rfl), rfl⟩
    have e1 : ((x : Int) == 18442240474082181120) = false := by simp; omega
    by_cases h3 : pl x = 0 ∨ pl x = -1
    · have e2 : ((rg x : Int) == 0) = true := by
        have : rg x = 0 := by
          cases hs : sg x
          · rw [pl_pos hn hs] at h3; omega
          · rw [pl_neg hn hs] at h3; omega
        simp [this]
      have H : Hid (prevP (pl x) = -2) := by
        have : prevP (pl x) = -2 := by unfold prevP; rw [if_neg (by omega), if_pos h3]
        exact Lib.hid this
      clear h2 h3 hr hw d1 hxl
      go_enter Try.func109, Try.ntmps109
      go_wp2_with (first | (go_at_call 164; refine (c164 _ _ (by assumption)).mono ?_; rintro e w' ⟨rfl, rfl⟩) | (go_at_call 165; refine (c165 _ _ (by decide) (by decide)).mono ?_; rintro e w' ⟨rfl, rfl⟩))
      go_ret
      exact ⟨retF (U_atW _ (by decide) (by decide)) (by rw [H.out]; exact pl_atW _ (by decide) (by decide)), rfl⟩
    · have e2 : ((rg x : Int) == 0) = false := by
        have : rg x ≠ 0 := by
          cases hs : sg x
          · rw [pl_pos hn hs] at h3; omega
          · rw [pl_neg hn hs] at h3; omega
        simp [this]
      have H : Hid (prevP (pl x) = pl x - 1) := by
        have : prevP (pl x) = pl x - 1 := by unfold prevP; rw [if_neg (by omega), if_neg h3]
        exact Lib.hid this
      have b1 : -9218868437227405313 ≤ pl x - 1 := by omega
      have b2 : pl x - 1 ≤ 9218868437227405312 := by omega
      clear h2 h3 hr hw d1 hxl
      go_enter Try.func109, Try.ntmps109
      go_wp2_with (first | (go_at_call 164; refine (c164 _ _ (by assumption)).mono ?_; rintro e w' ⟨rfl, rfl⟩) | (go_at_call 134; refine (c134 _ _ (by assumption)).mono ?_; rintro e w' ⟨rfl, rfl⟩) | (go_at_call 165; refine (c165 _ _ (by omega) (by omega)).mono ?_; rintro e w' ⟨rfl, rfl⟩))
      go_ret
      exact ⟨retF (U_atW _ (by omega) (by omega)) (by rw [H.out]; exact pl_atW _ b1 b2), rfl⟩
  · have H := Lib.hid (pl_nan hn)
    clear n1 hr hxl
    go_enter Try.func109, Try.ntmps109
    go_wp2_with (go_at_call 164; refine (c164 _ _ (by assumption)).mono ?_; rintro e w' ⟨rfl, rfl⟩)
    go_ret
    exact ⟨retF hx (by rw [H.out]; rfl), rfl⟩
end Go.Proofs.Ytelalledjbeenaa
