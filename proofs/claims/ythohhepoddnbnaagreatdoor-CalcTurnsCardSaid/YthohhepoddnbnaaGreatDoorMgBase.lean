/- What all walks of this seat use: bodiless functions of Go's library, bits of words, places of numbers in the total order. The walks of package bits and of its reference: order, neighbours, parts. Whole numbers as 40 words of 64 bits, below nought by the two's complement: the plain laws. Steps of the relational walk by the operation's kind; each fails at once where it does not fit. -/
import Derived.Test.YthohhepoddnbnaaGreatDoorChecked
import Derived.Test.YthohhepoddnbnaaGreatDoorMgFl
import Derived.Test.YthohhepoddnbnaaGreatDoorRel
import Derived.WalkKit
import Derived.WalkLawsBesides
import Derived.WalkSpells
import Derived.Lib.Hide
import Derived.KernelRfl
import Derived.Laws.FloatArith
import Derived.Laws.Externs
import Derived.Laws.BitsAllLaws
namespace Go.Proofs.YthohhepoddnbnaaGreatDoor
open Go.RowKit Fl

/-! ### bodiless functions -/
theorem x128 (x : Nat) (w : World) : (callFunc 63 #[.float .f64 x]).run Tryz.prog w = .ok (.value (.int .u64 x)) w := by
  rw [run_callFunc_extern (P := Tryz.prog) (f := 63) (fn := Tryz.f63) (e := Extern.MathFloatBits.float64bits) (by kernel_rfl) (by kernel_rfl) (by kernel_rfl) (by kernel_rfl) (by kernel_rfl)]
  rfl
theorem x153 (x : Int) (w : World) : (callFunc 62 #[.int .u64 x]).run Tryz.prog w = .ok (.value (.float .f64 x.toNat)) w := by
  rw [run_callFunc_extern (P := Tryz.prog) (f := 62) (fn := Tryz.f62) (e := Extern.MathFloatBits.float64frombits) (by kernel_rfl) (by kernel_rfl) (by kernel_rfl) (by kernel_rfl) (by kernel_rfl)]
  rfl
attribute [go_sem] x128 x153  

/-! ### a word of 64 bits, by a name -/
def U (x : Nat) : Prop := x < 18446744073709551616
theorem U.lt {x : Nat} (h : U x) : x < 18446744073709551616 := h

theorem sg_iff (x : Nat) : sg x = true ↔ 9223372036854775808 ≤ x := by simp [sg]
theorem rg_of_sg {x : Nat} (h : U x) (hs : sg x = true) : rg x = x - 9223372036854775808 := by
  have := h.lt; have := (sg_iff x).1 hs; unfold rg; omega
theorem rg_of_not {x : Nat} (hs : sg x = false) : rg x = x := by
  have : ¬ 9223372036854775808 ≤ x := fun h => by rw [(sg_iff x).2 h] at hs; cases hs
  unfold rg; omega

theorem b_sign (x : Nat) (h : U x) : bits .and .u64 (x : Int) 9223372036854775808 = if sg x then 9223372036854775808 else 0 := by
  have := h.lt
  rw [show (9223372036854775808 : Int) = ((9223372036854775808 : Nat) : Int) from rfl, u64_and_nat _ _ h.lt (by omega), nat_bit 63 x]
  by_cases c : sg x = true
  · have := (sg_iff x).1 c
    rw [if_pos c]; omega
  · have : ¬ 9223372036854775808 ≤ x := fun h => c ((sg_iff x).2 h)
    rw [if_neg c]; omega
theorem b_mag (x : Nat) (h : U x) : bits .andNot .u64 (x : Int) 9223372036854775808 = (rg x : Int) := by
  have := h.lt
  rw [show (9223372036854775808 : Int) = ((9223372036854775808 : Nat) : Int) from rfl, u64_andNot_nat _ _ h.lt (by omega)]
  congr 1
  exact Nat.and_two_pow_sub_one_eq_mod x 63
theorem b_frac (x : Nat) (h : U x) : bits .and .u64 (x : Int) 4503599627370495 = ((x % 4503599627370496 : Nat) : Int) := by
  have := h.lt
  rw [show (4503599627370495 : Int) = ((4503599627370495 : Nat) : Int) from rfl, u64_and_nat _ _ h.lt (by omega)]
  congr 1
  exact Nat.and_two_pow_sub_one_eq_mod x 52
theorem b_exp (x : Nat) (h : U x) : bits .and .u64 ((x : Int) / 4503599627370496) 2047 = ((x / 4503599627370496 % 2048 : Nat) : Int) := by
  have := h.lt
  rw [show ((x : Int) / 4503599627370496) = ((x / 4503599627370496 : Nat) : Int) from by omega, show (2047 : Int) = ((2047 : Nat) : Int) from rfl, u64_and_nat _ _ (by omega) (by omega)]
  congr 1
  exact Nat.and_two_pow_sub_one_eq_mod _ 11

theorem b_not (r : Nat) (h : r < 9223372036854775808) : bits BinOp.xor IntKind.i64 (-1) (bits BinOp.and IntKind.i64 ((r : Int) - 9223372036854775808) 9223372036854775807) = -(r : Int) - 1 := by
  have e1 : bits BinOp.and IntKind.i64 ((r : Int) - 9223372036854775808) 9223372036854775807 = (r : Int) := by
    have a : (BitVec.ofInt 64 ((r : Int) - 9223372036854775808)).toNat = r + 9223372036854775808 := by rw [BitVec.toNat_ofInt]; omega
    have b : (BitVec.ofInt 64 (9223372036854775807 : Int)).toNat = 2 ^ 63 - 1 := by rw [BitVec.toNat_ofInt]; decide
    show IntKind.i64.wrap (((BitVec.ofInt 64 ((r : Int) - 9223372036854775808) &&& BitVec.ofInt 64 (9223372036854775807 : Int)).toNat : Nat) : Int) = _
    rw [BitVec.toNat_and, a, b, Nat.and_two_pow_sub_one_eq_mod, IntKind.wrap_i64]
    omega
  rw [e1]
  have a : BitVec.ofInt 64 (-1 : Int) = BitVec.allOnes 64 := by decide
  have b : (BitVec.ofInt 64 (r : Int)).toNat = r := by rw [BitVec.toNat_ofInt]; omega
  show IntKind.i64.wrap (((BitVec.ofInt 64 (-1 : Int) ^^^ BitVec.ofInt 64 (r : Int)).toNat : Nat) : Int) = _
  rw [a, BitVec.allOnes_xor, BitVec.toNat_not, b, IntKind.wrap_i64]
  omega

/-! ### the place of a number in the total order -/
def pl (x : Nat) : Int := if isN x then 9223372036854775807 else if sg x then -(rg x : Int) - 1 else (rg x : Int)

theorem f64_order (x y : Nat) (hx : U x) (hy : U y) : FloatKind.f64.format.order x y = if isN x || isN y then none else some (compare (skey x) (skey y)) := order_eq x y hx.lt hy.lt
theorem neq_self (x : Nat) (hx : U x) : (FloatKind.f64.format.order x x != some Ordering.eq) = isN x := by
  rw [f64_order x x hx hx, compare_int]
  cases isN x <;> simp

/-- no number's place -/
def NP : Int := 9223372036854775807
theorem pl_nan {x : Nat} (h : isN x = true) : pl x = NP := by simp [pl, h, NP]
theorem pl_pos {x : Nat} (h : isN x = false) (hs : sg x = false) : pl x = (rg x : Int) := by simp [pl, h, hs]
theorem pl_neg {x : Nat} (h : isN x = false) (hs : sg x = true) : pl x = -(rg x : Int) - 1 := by simp [pl, h, hs]
/-- where a place may be -/
theorem pl_range (x : Nat) : pl x = 9223372036854775807 ∨ (-9218868437227405313 ≤ pl x ∧ pl x ≤ 9218868437227405312) := by
  by_cases h : isN x = true
  · left; rw [pl_nan h]; rfl
  · right
    have h' : isN x = false := by simpa using h
    have := isN_false h'
    unfold INF at this
    by_cases hs : sg x = true
    · rw [pl_neg h' hs]; omega
    · rw [pl_pos h' (by simpa using hs)]; omega
theorem isN_iff_pl (x : Nat) : isN x = decide (pl x = 9223372036854775807) := by
  by_cases h : isN x = true
  · rw [h, pl_nan h]; rfl
  · have h' : isN x = false := by simpa using h
    have := isN_false h'
    unfold INF at this
    rw [h']
    symm
    refine decide_eq_false ?_
    by_cases hs : sg x = true
    · rw [pl_neg h' hs]; omega
    · rw [pl_pos h' (by simpa using hs)]; omega
/-- of a place: as numbers stand (both noughts are one) -/
def zk (p : Int) : Int := if p < 0 then p + 1 else p
theorem skey_pl {x : Nat} (h : isN x = false) : skey x = zk (pl x) := by
  unfold skey zk
  by_cases hs : sg x = true
  · rw [pl_neg h hs, if_pos hs, if_pos (by omega)]; omega
  · have hs' : sg x = false := by simpa using hs
    rw [pl_pos h hs', if_neg hs, if_neg (by omega)]
def fltP (p q : Int) : Bool := decide (p ≠ 9223372036854775807) && decide (q ≠ 9223372036854775807) && decide (zk p < zk q)
def fleP (p q : Int) : Bool := decide (p ≠ 9223372036854775807) && decide (q ≠ 9223372036854775807) && decide (zk p ≤ zk q)
def feqP (p q : Int) : Bool := decide (p ≠ 9223372036854775807) && decide (q ≠ 9223372036854775807) && decide (zk p = zk q)
theorem order_cases (x y : Nat) (hx : U x) (hy : U y) : FloatKind.f64.format.order x y =
    if fltP (pl x) (pl y) then some .lt else if feqP (pl x) (pl y) then some .eq else if fltP (pl y) (pl x) then some .gt else none := by
  rw [f64_order x y hx hy, isN_iff_pl, isN_iff_pl]
  by_cases h1 : isN x = true
  · have e := pl_nan h1
    unfold NP at e
    simp [e, fltP, feqP]
  by_cases h2 : isN y = true
  · have e := pl_nan h2
    unfold NP at e
    simp [e, fltP, feqP]
  simp only [Bool.not_eq_true] at h1 h2
  rw [skey_pl h1, skey_pl h2, compare_int]
  rw [isN_iff_pl] at h1 h2
  have h1' := of_decide_eq_false h1
  have h2' := of_decide_eq_false h2
  simp only [fltP, feqP, h1', h2', decide_false, decide_true, ne_eq, not_false_iff, Bool.true_and, Bool.or_self, Bool.false_eq_true, if_false, decide_eq_true_eq]
  by_cases c1 : zk (pl x) < zk (pl y)
  · simp [c1]
  · by_cases c2 : zk (pl x) = zk (pl y)
    · simp [c2]
    · simp [c1, c2]; omega
theorem f_lt (x y : Nat) (hx : U x) (hy : U y) : (FloatKind.f64.format.order x y == some Ordering.lt) = fltP (pl x) (pl y) := by
  rw [order_cases x y hx hy]
  cases h : fltP (pl x) (pl y) <;> simp
  split <;> simp
theorem fltP_not {p q : Int} (h : fltP p q = true) : feqP p q = false ∧ fltP q p = false := by
  simp [fltP, feqP] at *; omega
theorem feqP_not {p q : Int} (h : feqP p q = true) : fltP p q = false ∧ fltP q p = false := by
  simp [fltP, feqP] at *; omega
theorem f_eq (x y : Nat) (hx : U x) (hy : U y) : (FloatKind.f64.format.order x y == some Ordering.eq) = feqP (pl x) (pl y) := by
  rw [order_cases x y hx hy]
  cases h : fltP (pl x) (pl y)
  · cases h' : feqP (pl x) (pl y) <;> simp
  · rw [(fltP_not h).1]; rfl
theorem f_ne (x y : Nat) (hx : U x) (hy : U y) : (FloatKind.f64.format.order x y != some Ordering.eq) = !feqP (pl x) (pl y) := by
  rw [← f_eq x y hx hy]; rfl
theorem f_gt (x y : Nat) (hx : U x) (hy : U y) : (FloatKind.f64.format.order x y == some Ordering.gt) = fltP (pl y) (pl x) := by
  rw [order_cases x y hx hy]
  cases h : fltP (pl y) (pl x)
  · cases h' : fltP (pl x) (pl y) <;> cases h'' : feqP (pl x) (pl y) <;> simp
  · rw [(fltP_not h).2]
    have : feqP (pl x) (pl y) = false := by have := (fltP_not h).1; simp [feqP] at *; omega
    rw [this]; rfl
theorem fleP_eq (p q : Int) : fleP p q = (fltP p q || feqP p q) := by
  rw [Bool.eq_iff_iff]; simp [fleP, fltP, feqP]; omega
theorem feqP_comm (p q : Int) : feqP p q = feqP q p := by
  rw [Bool.eq_iff_iff]; simp [feqP]; omega
theorem f_le (x y : Nat) (hx : U x) (hy : U y) : (FloatKind.f64.format.order x y == some Ordering.lt || FloatKind.f64.format.order x y == some Ordering.eq) = fleP (pl x) (pl y) := by
  rw [f_lt x y hx hy, f_eq x y hx hy, fleP_eq]
theorem f_ge (x y : Nat) (hx : U x) (hy : U y) : (FloatKind.f64.format.order x y == some Ordering.gt || FloatKind.f64.format.order x y == some Ordering.eq) = fleP (pl y) (pl x) := by
  rw [f_gt x y hx hy, f_eq x y hx hy, fleP_eq, feqP_comm]
/-- x turned round -/
def ng (x : Nat) : Nat := Op.negFloat .f64 x
theorem xor_top (r : Nat) (h : r < 2 ^ 63) : r ^^^ 2 ^ 63 = 9223372036854775808 + r := by
  rw [show (9223372036854775808 : Nat) + r = 2 ^ 63 ||| r from (nat_join 63 (2 ^ 63) r (by decide) h).symm]
  apply Nat.eq_of_testBit_eq
  intro i
  rw [Nat.testBit_xor, Nat.testBit_or, Nat.testBit_two_pow]
  by_cases hi : 63 = i
  · subst hi
    rw [Nat.testBit_lt_two_pow h]; rfl
  · simp [hi]
theorem ng_eq (x : Nat) (h : U x) : ng x = word (!sg x) (rg x) := by
  have hl := rg_lt x
  have e : ng x = x ^^^ 2 ^ 63 := rfl
  have hx := word_self x h.lt
  rw [e]
  cases hs : sg x
  · rw [hs] at hx
    have h3 : rg x = x := hx
    have h4 := xor_top x (by omega)
    rw [h4, h3]; rfl
  · rw [hs] at hx
    have h3 : 9223372036854775808 + rg x = x := hx
    have h4 := xor_top (rg x) hl
    rw [h3] at h4
    have h5 : (rg x ^^^ 2 ^ 63) ^^^ 2 ^ 63 = rg x := by rw [Nat.xor_assoc, Nat.xor_self, Nat.xor_zero]
    rw [h4] at h5
    rw [h5]; rfl
theorem U_word (s : Bool) (r : Nat) (h : r < 9223372036854775808) : U (word s r) := by
  unfold U word; cases s <;> simp <;> omega
theorem U_ng {x : Nat} (h : U x) : U (ng x) := by rw [ng_eq x h]; exact U_word _ _ (rg_lt x)
theorem sg_ng {x : Nat} (h : U x) : sg (ng x) = !sg x := by rw [ng_eq x h, sg_word _ _ (rg_lt x)]
theorem rg_ng {x : Nat} (h : U x) : rg (ng x) = rg x := by rw [ng_eq x h, rg_word _ _ (rg_lt x)]
theorem isN_ng {x : Nat} (h : U x) : isN (ng x) = isN x := by unfold isN; rw [rg_ng h]
/-- the place of what is turned round -/
def ngP (p : Int) : Int := if p = 9223372036854775807 then p else -1 - p
theorem pl_ng {x : Nat} (h : U x) : pl (ng x) = ngP (pl x) := by
  unfold ngP
  have hn := isN_ng h
  by_cases c : isN x = true
  · rw [pl_nan c, pl_nan (by rw [hn, c])]; rfl
  · have c' : isN x = false := by simpa using c
    have d : isN (ng x) = false := by rw [hn, c']
    have e := isN_iff_pl x
    rw [c'] at e
    rw [if_neg (of_decide_eq_false e.symm)]
    cases hs : sg x
    · rw [pl_pos c' hs, pl_neg d (by rw [sg_ng h, hs]; rfl), rg_ng h]; omega
    · rw [pl_neg c' hs, pl_pos d (by rw [sg_ng h, hs]; rfl), rg_ng h]; omega
theorem pl_word (s : Bool) (r : Nat) (h : r ≤ INF) : pl (word s r) = if s then -(r : Int) - 1 else (r : Int) := by
  have hl : r < 9223372036854775808 := by unfold INF at h; omega
  have hn : isN (word s r) = false := by unfold isN; rw [rg_word s r hl]; exact decide_eq_false (by omega)
  cases s
  · rw [pl_pos hn (sg_word _ _ hl), rg_word _ _ hl]; rfl
  · rw [pl_neg hn (sg_word _ _ hl), rg_word _ _ hl]; rfl
/-- two places are one just where two words are, or both are no number -/
theorem pl_eq_iff {x y : Nat} (hx : U x) (hy : U y) : pl x = pl y ↔ x = y ∨ (isN x = true ∧ isN y = true) := by
  constructor
  · intro h
    by_cases c : isN x = true
    · refine .inr ⟨c, ?_⟩
      rw [isN_iff_pl] at c ⊢
      rw [← h]; exact c
    · have c' : isN x = false := by simpa using c
      have d' : isN y = false := by rw [isN_iff_pl] at c' ⊢; rw [← h]; exact c'
      left
      rw [← word_self x hx.lt, ← word_self y hy.lt]
      cases hs : sg x <;> cases ht : sg y
      · rw [pl_pos c' hs, pl_pos d' ht] at h; rw [show rg x = rg y by omega]
      · rw [pl_pos c' hs, pl_neg d' ht] at h; omega
      · rw [pl_neg c' hs, pl_pos d' ht] at h; omega
      · rw [pl_neg c' hs, pl_neg d' ht] at h; rw [show rg x = rg y by omega]
  · rintro (h | ⟨h1, h2⟩)
    · rw [h]
    · rw [pl_nan h1, pl_nan h2]
theorem ret_int {k : IntKind} {a b : Int} (h : b = a) : Ending.returned (.int k a) = .returned (.int k b) := by rw [h]
theorem ret_bool {a b : Bool} (h : a = b) : Ending.returned (.bool a) = .returned (.bool b) := by rw [h]
theorem ret_float {k : FloatKind} {a b : Nat} (h : a = b) : Ending.returned (.float k a) = .returned (.float k b) := by rw [h]
/-- A word of a given place, its bits unsaid. -/
def RetF (p : Int) (e : Ending) : Prop := ∃ r, e = .returned (.float .f64 r) ∧ U r ∧ pl r = p

theorem rg_fits (x : Nat) : -9223372036854775808 ≤ (rg x : Int) ∧ (rg x : Int) ≤ 9223372036854775807 := by have := rg_lt x; omega

set_option maxRecDepth 100000 in
theorem c152 (x : Nat) (w : World) (hx : U x) : Calls Tryz.prog 155 #[.float .f64 x] w fun e w' => e = .returned (.int .i64 (pl x)) ∧ w = w' := by
  have h0 := neq_self x hx
  have hlt := rg_lt x
  have hu := hx.lt
  by_cases hn : isN x = true
  · rw [hn] at h0
    go_enter Tryz.func155, Tryz.ntmps155
    go_wp2
    go_ret
    exact ⟨by simp [pl, hn], rfl⟩
  · simp only [Bool.not_eq_true] at hn
    rw [hn] at h0
    by_cases hs : sg x = true
    · have hr := rg_of_sg hx hs
      have hw : wrap64 (x : Int) = (rg x : Int) - 9223372036854775808 := by
        have := (sg_iff x).1 hs
        unfold wrap64; omega
      have hneg : (rg x : Int) - 9223372036854775808 < 0 := by omega
      have e1 := b_not (rg x) hlt
      have hp : pl x = -(rg x : Int) - 1 := by simp [pl, hn, hs]
      rw [hp]
      clear hp hr hlt hu
      go_enter Tryz.func155, Tryz.ntmps155
      go_wp2
      go_ret
      exact ⟨rfl, rfl⟩
    · simp only [Bool.not_eq_true] at hs
      have hr := rg_of_not hs
      have hw : wrap64 (x : Int) = (rg x : Int) := by
        unfold wrap64; omega
      have hneg : ¬ (rg x : Int) < 0 := by omega
      have hp : pl x = (rg x : Int) := by simp [pl, hn, hs]
      rw [hp]
      clear hp hr hlt hu
      go_enter Tryz.func155, Tryz.ntmps155
      go_wp2
      go_ret
      exact ⟨rfl, rfl⟩
end Go.Proofs.YthohhepoddnbnaaGreatDoor

namespace Go.Proofs.YthohhepoddnbnaaGreatDoor
open Go.RowKit Fl

theorem sg_word_cmp (x : Nat) (h : U x) : bits .and .u64 (x : Int) 9223372036854775808 = if sg x then 9223372036854775808 else 0 := b_sign x h
theorem inf_lt (x : Nat) : ((INF : Int) < (rg x : Int)) = (isN x = true) := by
  unfold isN; simp

set_option maxRecDepth 100000 in
theorem c134 (x : Nat) (w : World) (hx : U x) : Calls Tryz.prog 148 #[.float .f64 x] w fun e w' => e = .returned (.int .i64 (pl x)) ∧ w = w' := by
  have h1 := b_sign x hx
  have h2 := b_mag x hx
  have hlt := rg_lt x
  have h3 : wrap64 (rg x : Int) = (rg x : Int) := by unfold wrap64; omega
  cases hn : isN x
  · have hr := isN_false hn
    unfold INF at hr
    cases hs : sg x
    · rw [pl_pos hn hs]
      rw [hs, if_neg (by decide)] at h1
      have h4 : ¬ (9218868437227405312 : Int) < (rg x : Int) := by omega
      clear hlt hr
      go_enter Tryz.func148, Tryz.ntmps148
      go_wp2
      go_ret
      exact ⟨rfl, rfl⟩
    · rw [pl_neg hn hs]
      rw [hs, if_pos rfl] at h1
      have h4 : ¬ (9218868437227405312 : Int) < (rg x : Int) := by omega
      have h5 : wrap64 (-(rg x : Int)) = -(rg x : Int) := by unfold wrap64; omega
      have h6 : wrap64 (-(rg x : Int) - 1) = -(rg x : Int) - 1 := by unfold wrap64; omega
      clear hlt hr
      go_enter Tryz.func148, Tryz.ntmps148
      go_wp2
      go_ret
      exact ⟨rfl, rfl⟩
  · have hr := isN_true hn
    unfold INF at hr
    rw [pl_nan hn]
    have h4 : (9218868437227405312 : Int) < (rg x : Int) := by omega
    clear hlt hr h1
    go_enter Tryz.func148, Tryz.ntmps148
    go_wp2
    go_ret
    exact ⟨rfl, rfl⟩

set_option maxRecDepth 100000 in
theorem c164 (x : Nat) (w : World) (hx : U x) : Calls Tryz.prog 146 #[.float .f64 x] w fun e w' => e = .returned (.bool (isN x)) ∧ w = w' := by
  have h2 := b_mag x hx
  go_enter Tryz.func146, Tryz.ntmps146
  go_wp2
  go_ret
  refine ⟨?_, rfl⟩
  unfold isN INF
  simp; omega

theorem same_bits {x y : Nat} (hx : U x) (hy : U y) : ((x == y) || (isN x && isN y)) = (pl x == pl y) := by
  have := pl_eq_iff hx hy
  rw [Bool.eq_iff_iff]; simp [this]
theorem feq_self {x : Nat} : feqP (pl x) (pl x) = !isN x := by
  rw [isN_iff_pl, Bool.eq_iff_iff]; simp [feqP]

def cmpZ (a b : Int) : Int := if a < b then -1 else if b < a then 1 else 0

theorem b_or (r : Nat) (h : r < 9223372036854775808) : bits .or .u64 (r : Int) 9223372036854775808 = ((9223372036854775808 + r : Nat) : Int) := by
  rw [show (9223372036854775808 : Int) = ((9223372036854775808 : Nat) : Int) from rfl, u64_or_nat _ _ (by omega) (by omega)]
  congr 1
  rw [Nat.or_comm]
  exact nat_join 63 (2 ^ 63) r (by decide) h

def atW (k : Int) : Nat := if k < 0 then word true (-(k + 1)).toNat else word false k.toNat
theorem pl_atW (k : Int) (h1 : -9218868437227405313 ≤ k) (h2 : k ≤ 9218868437227405312) : pl (atW k) = k := by
  unfold atW
  split
  · rw [pl_word _ _ (by unfold INF; omega), if_pos rfl]; omega
  · rw [pl_word _ _ (by unfold INF; omega), if_neg (by decide)]; omega
theorem U_atW (k : Int) (h1 : -9223372036854775808 ≤ k) (h2 : k ≤ 9223372036854775807) : U (atW k) := by
  unfold atW
  split <;> exact U_word _ _ (by omega)

def nextP (p : Int) : Int := if p = 9223372036854775807 ∨ p = 9218868437227405312 then p else if p = 0 ∨ p = -1 then 1 else p + 1
def prevP (p : Int) : Int := if p = 9223372036854775807 ∨ p = -9218868437227405313 then p else if p = 0 ∨ p = -1 then -2 else p - 1
def minP (p q : Int) : Int := if p = 9223372036854775807 ∨ q = 9223372036854775807 then 9223372036854775807 else if q < p then q else p
def maxP (p q : Int) : Int := if p = 9223372036854775807 ∨ q = 9223372036854775807 then 9223372036854775807 else if p < q then q else p

def QN : Nat := 9221120237041090561
theorem pl_QN : pl QN = 9223372036854775807 := by decide
theorem U_QN : U QN := by unfold U; decide
def QR : Nat := 9221120237041090560
theorem pl_QR : pl QR = 9223372036854775807 := by decide
theorem U_QR : U QR := by unfold U; decide

set_option maxRecDepth 100000 in
theorem c135 (w : World) : Calls Tryz.prog 36 #[] w fun e w' => e = .returned (.float .f64 QN) ∧ w = w' := by
  go_enter Tryz.func36, Tryz.ntmps36
  go_wp2
  go_ret
  exact ⟨rfl, rfl⟩
set_option maxRecDepth 100000 in
theorem c139 (w : World) : Calls Tryz.prog 147 #[] w fun e w' => e = .returned (.float .f64 QR) ∧ w = w' := by
  go_enter Tryz.func147, Tryz.ntmps147
  go_wp2
  go_ret
  exact ⟨rfl, rfl⟩

theorem retF {p : Int} {r : Nat} (hu : U r) (h : pl r = p) : RetF p (.returned (.float .f64 r)) := ⟨r, rfl, hu, h⟩

set_option maxRecDepth 100000 in
theorem c83 (x y : Nat) (w : World) (hx : U x) (hy : U y) : Calls Tryz.prog 129 #[.float .f64 x, .float .f64 y] w fun e w' => RetF (minP (pl x) (pl y)) e ∧ w = w' := by
  have e1 := neq_self x hx
  have e2 := neq_self y hy
  have n1 := isN_iff_pl x
  have n2 := isN_iff_pl y
  cases h1 : isN x <;> cases h2 : isN y
  all_goals
    rw [h1] at e1 n1
    rw [h2] at e2 n2
  · by_cases c : pl x ≤ pl y
    all_goals
      have d1 := of_decide_eq_false n1.symm
      have d2 := of_decide_eq_false n2.symm
      clear n1 n2 h1 h2
      go_enter Tryz.func129, Tryz.ntmps129
      go_wp2_with (go_at_call 155; refine (c152 _ _ (by assumption)).mono ?_; rintro e w' ⟨rfl, rfl⟩)
      go_ret
      refine ⟨retF (by assumption) ?_, rfl⟩
      unfold minP
      rw [if_neg (by omega)]
      first | rw [if_pos (by omega)] | rw [if_neg (by omega)]
  all_goals
    have N1 := Lib.hid n1
    have N2 := Lib.hid n2
    clear h1 h2 n1 n2
    go_enter Tryz.func129, Tryz.ntmps129
    go_wp2_with (go_at_call 36; refine (c135 _).mono ?_; rintro e w' ⟨rfl, rfl⟩)
    go_ret
    refine ⟨retF U_QN ?_, rfl⟩
    rw [pl_QN]
    unfold minP
    rw [if_pos]
    first | exact .inl (of_decide_eq_true N1.out.symm) | exact .inr (of_decide_eq_true N2.out.symm)
set_option maxRecDepth 100000 in
theorem c84 (x y : Nat) (w : World) (hx : U x) (hy : U y) : Calls Tryz.prog 130 #[.float .f64 x, .float .f64 y] w fun e w' => RetF (maxP (pl x) (pl y)) e ∧ w = w' := by
  have e1 := neq_self x hx
  have e2 := neq_self y hy
  have n1 := isN_iff_pl x
  have n2 := isN_iff_pl y
  cases h1 : isN x <;> cases h2 : isN y
  all_goals
    rw [h1] at e1 n1
    rw [h2] at e2 n2
  · by_cases c : pl x < pl y
    all_goals
      have d1 := of_decide_eq_false n1.symm
      have d2 := of_decide_eq_false n2.symm
      clear n1 n2 h1 h2
      go_enter Tryz.func130, Tryz.ntmps130
      go_wp2_with (go_at_call 155; refine (c152 _ _ (by assumption)).mono ?_; rintro e w' ⟨rfl, rfl⟩)
      go_ret
      refine ⟨retF (by assumption) ?_, rfl⟩
      unfold maxP
      rw [if_neg (by omega)]
      first | rw [if_pos (by omega)] | rw [if_neg (by omega)]
  all_goals
    have N1 := Lib.hid n1
    have N2 := Lib.hid n2
    clear h1 h2 n1 n2
    go_enter Tryz.func130, Tryz.ntmps130
    go_wp2_with (go_at_call 36; refine (c135 _).mono ?_; rintro e w' ⟨rfl, rfl⟩)
    go_ret
    refine ⟨retF U_QN ?_, rfl⟩
    rw [pl_QN]
    unfold maxP
    rw [if_pos]
    first | exact .inl (of_decide_eq_true N1.out.symm) | exact .inr (of_decide_eq_true N2.out.symm)
set_option maxRecDepth 100000 in
theorem c110 (x y : Nat) (w : World) (hx : U x) (hy : U y) : Calls Tryz.prog 112 #[.float .f64 x, .float .f64 y] w fun e w' => RetF (minP (pl x) (pl y)) e ∧ w = w' := by
  have n1 := isN_iff_pl x
  have n2 := isN_iff_pl y
  cases h1 : isN x <;> cases h2 : isN y
  all_goals
    rw [h1] at n1
    rw [h2] at n2
  · by_cases c : pl y < pl x
    all_goals
      have d1 := of_decide_eq_false n1.symm
      have d2 := of_decide_eq_false n2.symm
      clear n1 n2
      go_enter Tryz.func112, Tryz.ntmps112
      go_wp2_with (first | (go_at_call 146; refine (c164 _ _ (by assumption)).mono ?_; rintro e w' ⟨rfl, rfl⟩) | (go_at_call 148; refine (c134 _ _ (by assumption)).mono ?_; rintro e w' ⟨rfl, rfl⟩))
      go_ret
      refine ⟨retF (by assumption) ?_, rfl⟩
      unfold minP
      rw [if_neg (by omega)]
      first | rw [if_pos (by omega)] | rw [if_neg (by omega)]
  all_goals
    have N1 := Lib.hid n1
    have N2 := Lib.hid n2
    clear n1 n2
    go_enter Tryz.func112, Tryz.ntmps112
    go_wp2_with (first | (go_at_call 146; refine (c164 _ _ (by assumption)).mono ?_; rintro e w' ⟨rfl, rfl⟩) | (go_at_call 147; refine (c139 _).mono ?_; rintro e w' ⟨rfl, rfl⟩))
    go_ret
    refine ⟨retF U_QR ?_, rfl⟩
    rw [pl_QR]
    unfold minP
    rw [if_pos]
    first | exact .inl (of_decide_eq_true N1.out.symm) | exact .inr (of_decide_eq_true N2.out.symm)

set_option maxRecDepth 100000 in
theorem c111 (x y : Nat) (w : World) (hx : U x) (hy : U y) : Calls Tryz.prog 113 #[.float .f64 x, .float .f64 y] w fun e w' => RetF (maxP (pl x) (pl y)) e ∧ w = w' := by
  have n1 := isN_iff_pl x
  have n2 := isN_iff_pl y
  cases h1 : isN x <;> cases h2 : isN y
  all_goals
    rw [h1] at n1
    rw [h2] at n2
  · by_cases c : pl x < pl y
    all_goals
      have d1 := of_decide_eq_false n1.symm
      have d2 := of_decide_eq_false n2.symm
      clear n1 n2
      go_enter Tryz.func113, Tryz.ntmps113
      go_wp2_with (first | (go_at_call 146; refine (c164 _ _ (by assumption)).mono ?_; rintro e w' ⟨rfl, rfl⟩) | (go_at_call 148; refine (c134 _ _ (by assumption)).mono ?_; rintro e w' ⟨rfl, rfl⟩))
      go_ret
      refine ⟨retF (by assumption) ?_, rfl⟩
      unfold maxP
      rw [if_neg (by omega)]
      first | rw [if_pos (by omega)] | rw [if_neg (by omega)]
  all_goals
    have N1 := Lib.hid n1
    have N2 := Lib.hid n2
    clear n1 n2
    go_enter Tryz.func113, Tryz.ntmps113
    go_wp2_with (first | (go_at_call 146; refine (c164 _ _ (by assumption)).mono ?_; rintro e w' ⟨rfl, rfl⟩) | (go_at_call 147; refine (c139 _).mono ?_; rintro e w' ⟨rfl, rfl⟩))
    go_ret
    refine ⟨retF U_QR ?_, rfl⟩
    rw [pl_QR]
    unfold maxP
    rw [if_pos]
    first | exact .inl (of_decide_eq_true N1.out.symm) | exact .inr (of_decide_eq_true N2.out.symm)

theorem U_MAX : U 9218868437227405311 := by unfold U; decide
theorem pl_MAX : pl 9218868437227405311 = 9218868437227405311 := by decide
theorem U_0 : U 0 := by unfold U; decide
theorem pl_0 : pl 0 = 0 := by decide
theorem pl_one : pl 1 = 1 := by decide
theorem U_one : U 1 := by unfold U; decide

/-- a word of a place that is told -/
theorem word_of_pl (x : Nat) (hx : U x) (hn : isN x = false) : (0 ≤ pl x ∧ (x : Int) = pl x) ∨ (pl x < 0 ∧ (x : Int) = 9223372036854775807 - pl x) := by
  have hl := rg_lt x
  cases hs : sg x
  · left; rw [pl_pos hn hs, rg_of_not hs]; omega
  · right; rw [pl_neg hn hs]; have := rg_of_sg hx hs; have := (sg_iff x).1 hs; omega
theorem pl_of_pos (x : Nat) (h : x ≤ 9218868437227405312) : pl x = (x : Int) := by
  have := pl_word false x h
  simpa [word] using this
theorem pl_of_neg (x : Nat) (h1 : 9223372036854775808 ≤ x) (h : x ≤ 18442240474082181120) : pl x = 9223372036854775807 - (x : Int) := by
  have := pl_word true (x - 9223372036854775808) (by unfold INF; omega)
  rw [show word true (x - 9223372036854775808) = x by simp [word]; omega] at this
  rw [this, if_pos rfl]; omega

theorem prevP_eq (p : Int) (h : p = 9223372036854775807 ∨ (-9218868437227405313 ≤ p ∧ p ≤ 9218868437227405312)) : ngP (nextP (ngP p)) = prevP p := by
  by_cases h1 : p = 9223372036854775807
  · subst h1; decide
  by_cases h2 : p = -9218868437227405313
  · subst h2; decide
  by_cases h3 : p = 0
  · subst h3; decide
  by_cases h4 : p = -1
  · subst h4; decide
  have e1 : ngP p = -1 - p := if_neg h1
  have a1 : ¬ (-1 - p = 9223372036854775807 ∨ -1 - p = 9218868437227405312) := by omega
  have a2 : ¬ (-1 - p = 0 ∨ -1 - p = -1) := by omega
  have e2 : nextP (-1 - p) = -1 - p + 1 := by unfold nextP; rw [if_neg a1, if_neg a2]
  have a3 : ¬ (-1 - p + 1 = 9223372036854775807) := by omega
  have a4 : ¬ (p = 9223372036854775807 ∨ p = -9218868437227405313) := by omega
  have a5 : ¬ (p = 0 ∨ p = -1) := by omega
  rw [e1, e2]
  unfold ngP prevP
  rw [if_neg a3, if_neg a4, if_neg a5]
  omega

end Go.Proofs.YthohhepoddnbnaaGreatDoor

namespace Go.Proofs.YthohhepoddnbnaaGreatDoor.Fl

/-- the i-th word of a whole number -/
def wd (z : Int) (i : Nat) : Int := z / (2 : Int) ^ (64 * i) % 18446744073709551616
theorem wd_range (z : Int) (i : Nat) : 0 ≤ wd z i ∧ wd z i < 18446744073709551616 := by
  unfold wd
  exact ⟨Int.emod_nonneg _ (by decide), Int.emod_lt_of_pos _ (by decide)⟩
theorem T_pos (i : Nat) : (0 : Int) < (2 : Int) ^ (64 * i) := Int.pow_pos (by decide)
theorem T_succ (i : Nat) : (2 : Int) ^ (64 * (i + 1)) = (2 : Int) ^ (64 * i) * 18446744073709551616 := by
  rw [Nat.mul_succ, Int.pow_add]; rfl
theorem emod_mul' (a T : Int) (hT : 0 < T) : a % (T * 18446744073709551616) = T * (a / T % 18446744073709551616) + a % T := by
  have h1 := Int.mul_ediv_add_emod a T
  have h2 := Int.emod_nonneg a (show T ≠ 0 by omega)
  have h3 := Int.emod_lt_of_pos a hT
  have h4 := Int.mul_ediv_add_emod (a / T) 18446744073709551616
  have h5 := Int.emod_nonneg (a / T) (show (18446744073709551616 : Int) ≠ 0 by decide)
  have h6 := Int.emod_lt_of_pos (a / T) (show (0 : Int) < 18446744073709551616 by decide)
  generalize a / T / 18446744073709551616 = q at *
  generalize a / T % 18446744073709551616 = r at *
  generalize a % T = s at *
  have e : a = (T * r + s) + T * 18446744073709551616 * q := by
    rw [← h1, ← h4, Int.mul_add, Int.mul_assoc]; omega
  have h7 : 0 ≤ T * r := Int.mul_nonneg (by omega) h5
  have h8 : T * r + T ≤ T * 18446744073709551616 := by
    have := Int.mul_le_mul_of_nonneg_left (show r + 1 ≤ 18446744073709551616 by omega) (show 0 ≤ T by omega)
    rw [Int.mul_add, Int.mul_one] at this; exact this
  rw [e, Int.add_mul_emod_self_left, Int.emod_eq_of_lt (by omega) (by omega)]
/-- what is carried into the i-th word of a sum -/
def cy (a b : Int) (i : Nat) : Int := (a % (2 : Int) ^ (64 * i) + b % (2 : Int) ^ (64 * i)) / (2 : Int) ^ (64 * i)
theorem cy_zero (a b : Int) : cy a b 0 = 0 := by simp [cy, Int.emod_one]
theorem cy_range (a b : Int) (i : Nat) : 0 ≤ cy a b i ∧ cy a b i ≤ 1 := by
  unfold cy
  have hT := T_pos i
  generalize (2 : Int) ^ (64 * i) = T at *
  have h1 := Int.emod_nonneg a (show T ≠ 0 by omega)
  have h2 := Int.emod_nonneg b (show T ≠ 0 by omega)
  have h3 := Int.emod_lt_of_pos a hT
  have h4 := Int.emod_lt_of_pos b hT
  refine ⟨Int.ediv_nonneg (by omega) (by omega), ?_⟩
  have : (a % T + b % T) / T < 2 := Int.ediv_lt_of_lt_mul hT (by omega)
  omega
theorem div_add (a b : Int) (i : Nat) : (a + b) / (2 : Int) ^ (64 * i) = a / (2 : Int) ^ (64 * i) + b / (2 : Int) ^ (64 * i) + cy a b i := by
  unfold cy
  have hT := T_pos i
  generalize (2 : Int) ^ (64 * i) = T at *
  have h1 := Int.mul_ediv_add_emod a T
  have h2 := Int.mul_ediv_add_emod b T
  have e : a + b = (a % T + b % T) + T * (a / T + b / T) := by rw [Int.mul_add]; omega
  rw [e, Int.add_mul_ediv_left _ _ (by omega)]
  omega
theorem wd_add (a b : Int) (i : Nat) : wd (a + b) i = (wd a i + wd b i + cy a b i) % 18446744073709551616 := by
  unfold wd
  rw [div_add]
  omega
theorem cy_succ (a b : Int) (i : Nat) : cy a b (i + 1) = (wd a i + wd b i + cy a b i) / 18446744073709551616 := by
  have key : ∀ a : Int, a % ((2 : Int) ^ (64 * i) * 18446744073709551616) = (2 : Int) ^ (64 * i) * wd a i + a % (2 : Int) ^ (64 * i) := by
    intro a
    unfold wd
    have hT := T_pos i
    generalize (2 : Int) ^ (64 * i) = T at *
    exact emod_mul' a T hT
  have hT := T_pos i
  show (a % (2 : Int) ^ (64 * (i + 1)) + b % (2 : Int) ^ (64 * (i + 1))) / (2 : Int) ^ (64 * (i + 1)) = _
  rw [T_succ, key, key]
  unfold cy
  generalize (2 : Int) ^ (64 * i) = T at *
  generalize wd a i = x
  generalize wd b i = y
  rw [← Int.ediv_ediv_of_nonneg (by omega)]
  congr 1
  have e : T * x + a % T + (T * y + b % T) = (a % T + b % T) + T * (x + y) := by rw [Int.mul_add]; omega
  rw [e, Int.add_mul_ediv_left _ _ (by omega)]
  omega

/-- what is borrowed from the i-th word of nought less a number -/
def bw (a : Int) (i : Nat) : Int := if a % (2 : Int) ^ (64 * i) = 0 then 0 else 1
theorem bw_zero (a : Int) : bw a 0 = 0 := by simp [bw, Int.emod_one]
theorem bw_range (a : Int) (i : Nat) : 0 ≤ bw a i ∧ bw a i ≤ 1 := by unfold bw; split <;> omega
theorem wd_neg (a : Int) (i : Nat) : wd (-a) i = (0 - wd a i - bw a i) % 18446744073709551616 := by
  unfold wd bw
  have hT := T_pos i
  generalize (2 : Int) ^ (64 * i) = T at *
  have h1 := Int.mul_ediv_add_emod a T
  have h2 := Int.emod_nonneg a (show T ≠ 0 by omega)
  have h3 := Int.emod_lt_of_pos a hT
  have e : -a / T = -(a / T) - (if a % T = 0 then 0 else 1) := by
    split
    · rename_i h
      have : -a = 0 + T * (-(a / T)) := by rw [Int.mul_neg]; omega
      rw [this, Int.add_mul_ediv_left _ _ (by omega)]; simp
    · rename_i h
      have : -a = (T - a % T) + T * (-(a / T) - 1) := by rw [Int.mul_sub, Int.mul_neg]; omega
      rw [this, Int.add_mul_ediv_left _ _ (by omega), Int.ediv_eq_zero_of_lt (by omega) (by omega)]; omega
  rw [e]
  generalize (if a % T = 0 then (0 : Int) else 1) = c
  omega
theorem bw_succ (a : Int) (i : Nat) : bw a (i + 1) = if wd a i + bw a i = 0 then 0 else 1 := by
  have key : a % ((2 : Int) ^ (64 * i) * 18446744073709551616) = (2 : Int) ^ (64 * i) * wd a i + a % (2 : Int) ^ (64 * i) := by
    unfold wd
    have hT := T_pos i
    generalize (2 : Int) ^ (64 * i) = T at *
    exact emod_mul' a T hT
  have hT := T_pos i
  have hw := wd_range a i
  show (if a % (2 : Int) ^ (64 * (i + 1)) = 0 then (0 : Int) else 1) = _
  rw [T_succ, key]
  unfold bw
  generalize (2 : Int) ^ (64 * i) = T at *
  generalize wd a i = x at *
  have h2 := Int.emod_nonneg a (show T ≠ 0 by omega)
  generalize a % T = r at *
  by_cases hx : x = 0
  · subst hx
    rw [Int.mul_zero, Int.zero_add]
    split <;> simp_all
  · have h3 : 0 < T * x := Int.mul_pos hT (by omega)
    rw [if_neg (by omega), if_neg]
    split <;> omega
end Go.Proofs.YthohhepoddnbnaaGreatDoor.Fl

namespace Go.Proofs.YthohhepoddnbnaaGreatDoor
open Go
section
variable {P : Program} {ops : Array Oper} {C : World → Prop} {G : FuncId → Array Value → Value → Prop} {Q : Act → Prop} {rest : List Oper} {a : Act}
variable {dst : Option Tmp} {ty : TypeId} {pos : String} {af : Array Edge} {gd : Option (Nat × Bool)}

theorem rel_move {x : Operand} {v : Value} (hv : a.eval x = v) (hw : Region.wanted ⟨dst, .move x, ty, pos, af, gd⟩ (yielded ops a.tmps) = true) (k : wpRel P ops C G Q rest (a.put dst v)) :
    wpRel P ops C G Q (⟨dst, .move x, ty, pos, af, gd⟩ :: rest) a :=
  rel_val hw (fun w _ => by subst hv; rfl) k
theorem rel_assign {x : Operand} {v : Value} (hv : a.eval x = v) (hw : Region.wanted ⟨dst, .assign x, ty, pos, af, gd⟩ (yielded ops a.tmps) = true) (k : wpRel P ops C G Q rest (a.put dst v)) :
    wpRel P ops C G Q (⟨dst, .assign x, ty, pos, af, gd⟩ :: rest) a :=
  rel_val hw (fun w _ => by subst hv; rfl) k
theorem rel_pick_t {c x y : Operand} {v : Value} (hc : a.eval c = .bool true) (hv : a.eval x = v) (hw : Region.wanted ⟨dst, .pick c x y, ty, pos, af, gd⟩ (yielded ops a.tmps) = true) (k : wpRel P ops C G Q rest (a.put dst v)) :
    wpRel P ops C G Q (⟨dst, .pick c x y, ty, pos, af, gd⟩ :: rest) a :=
  rel_val hw (fun w _ => by
    subst hv
    unfold execOp
    simp only [hc]
    rfl) k
theorem rel_pick_f {c x y : Operand} {v : Value} (hc : a.eval c = .bool false) (hv : a.eval y = v) (hw : Region.wanted ⟨dst, .pick c x y, ty, pos, af, gd⟩ (yielded ops a.tmps) = true) (k : wpRel P ops C G Q rest (a.put dst v)) :
    wpRel P ops C G Q (⟨dst, .pick c x y, ty, pos, af, gd⟩ :: rest) a :=
  rel_val hw (fun w _ => by
    subst hv
    unfold execOp
    simp only [hc]
    rfl) k
/-- A call of a function by its number, the arguments by name. -/
theorem rel_callN {f : FuncId} {xs : Array Operand} {tys : Array TypeId} {args : Array Value} {v0 : Value → Prop} (hf : xs.map a.eval = args)
    (hw : Region.wanted ⟨dst, .call { callee := .value (.func f), args := xs, argTypes := tys }, ty, pos, af, gd⟩ (yielded ops a.tmps) = true)
    (h : ∀ w, C w → (execOp a.eval ⟨dst, .call { callee := .value (.func f), args := xs, argTypes := tys }, ty, pos, af, gd⟩).run P w = .ok (.enter f args) w)
    (c : ∀ w, C w → Calls P f args w fun e w' => ∃ v, e = .returned v ∧ G f args v ∧ C w') (hg : ∀ v, G f args v → v0 v) (k : ∀ v, v0 v → wpRel P ops C G Q rest (a.put dst v)) :
    wpRel P ops C G Q (⟨dst, .call { callee := .value (.func f), args := xs, argTypes := tys }, ty, pos, af, gd⟩ :: rest) a :=
  have _ := hf
  rel_call hw h c (fun v hv => k v (hg v hv))
end
end Go.Proofs.YthohhepoddnbnaaGreatDoor
