/- What all walks of this seat use: bodiless functions of Go's library, bits of words, places of numbers in the total order. The walks of package bits and of its reference: order, neighbours, parts. The walks of Split, and of what Join is made of. -/
import Derived.Test.YtlgencbldbpbdaaGreatDoorChecked
import Derived.Test.YtlgencbldbpbdaaGreatDoorMgFl
import Derived.Test.YtlgencbldbpbdaaGreatDoorRel
import Derived.WalkKit
import Derived.WalkLawsBesides
import Derived.WalkSpells
import Derived.Lib.Hide
import Derived.KernelRfl
import Derived.Laws.FloatArith
import Derived.Laws.Externs
import Derived.Laws.BitsAllLaws
namespace Go.Proofs.YtlgencbldbpbdaaGreatDoor
open Go.RowKit Fl
theorem x128 (x : Nat) (w : World) : (callFunc 66 #[.float .f64 x]).run Tryz.prog w = .ok (.value (.int .u64 x)) w := by
 rw [run_callFunc_extern (P := Tryz.prog) (f := 66) (fn := Tryz.f66) (e := Extern.MathFloatBits.float64bits) (by kernel_rfl) (by kernel_rfl) (by kernel_rfl) (by kernel_rfl) (by kernel_rfl)]
 rfl
theorem x153 (x : Int) (w : World) : (callFunc 49 #[.int .u64 x]).run Tryz.prog w = .ok (.value (.float .f64 x.toNat)) w := by
 rw [run_callFunc_extern (P := Tryz.prog) (f := 49) (fn := Tryz.f49) (e := Extern.MathFloatBits.float64frombits) (by kernel_rfl) (by kernel_rfl) (by kernel_rfl) (by kernel_rfl) (by kernel_rfl)]
 rfl
attribute [go_sem] x128 x153  
def U (x : Nat) : Prop := x < 18446744073709551616
theorem U.lt {x : Nat} (h : U x) : x < 18446744073709551616 := h
theorem sg_iff (x : Nat) : sg x = true ↔ 9223372036854775808 ≤ x := by simp [sg]
theorem rg_of_not {x : Nat} (hs : sg x = false) : rg x = x := by
 have : ¬ 9223372036854775808 ≤ x := fun h => by rw [(sg_iff x).2 h] at hs; cases hs
 unfold rg; omega
theorem b_sign (x : Nat) (h : U x) : bits .and .u64 (x : Int) 9223372036854775808 = if sg x then 9223372036854775808 else 0 := by
 have := h.lt
 rw [show (9223372036854775808 : Int) = ((9223372036854775808 : Nat) : Int) from rfl, u64_and_nat _ _ h.lt (by omega), nat_bit 63 x]
 by_cases c : sg x = true
 ·have := (sg_iff x).1 c
  rw [if_pos c]; omega
 ·have : ¬ 9223372036854775808 ≤ x := fun h => c ((sg_iff x).2 h)
  rw [if_neg c]; omega
theorem b_mag (x : Nat) (h : U x) : bits .andNot .u64 (x : Int) 9223372036854775808 = (rg x : Int) := by
 have := h.lt
 rw [show (9223372036854775808 : Int) = ((9223372036854775808 : Nat) : Int) from rfl, u64_andNot_nat _ _ h.lt (by omega)]
 congr 1
 exact Nat.and_two_pow_sub_one_eq_mod x 63
theorem b_frac (x : Nat) (h : U x) : bits .and .u64 (x : Int) 4503599627370495 = ((x % 4503599627370496 : Nat) : Int) := by
 have := h.lt
 rw [show (4503599627370495 : Int) = ((4503599627370495 : Nat) : Int) from rfl, u64_and_nat _ _ h.lt (by omega)]
 congr 1
 exact Nat.and_two_pow_sub_one_eq_mod x 52
theorem b_exp (x : Nat) (h : U x) : bits .and .u64 ((x : Int) / 4503599627370496) 2047 = ((x / 4503599627370496 % 2048 : Nat) : Int) := by
 have := h.lt
 rw [show ((x : Int) / 4503599627370496) = ((x / 4503599627370496 : Nat) : Int) from by omega, show (2047 : Int) = ((2047 : Nat) : Int) from rfl, u64_and_nat _ _ (by omega) (by omega)]
 congr 1
 exact Nat.and_two_pow_sub_one_eq_mod _ 11
def pl (x : Nat) : Int := if isN x then 9223372036854775807 else if sg x then -(rg x : Int) - 1 else (rg x : Int)
theorem f64_order (x y : Nat) (hx : U x) (hy : U y) : FloatKind.f64.format.order x y = if isN x || isN y then none else some (compare (skey x) (skey y)) := order_eq x y hx.lt hy.lt
theorem neq_self (x : Nat) (hx : U x) : (FloatKind.f64.format.order x x != some Ordering.eq) = isN x := by
 rw [f64_order x x hx hx, compare_int]
 cases isN x <;> simp
def NP : Int := 9223372036854775807
theorem pl_nan {x : Nat} (h : isN x = true) : pl x = NP := by simp [pl, h, NP]
theorem pl_pos {x : Nat} (h : isN x = false) (hs : sg x = false) : pl x = (rg x : Int) := by simp [pl, h, hs]
theorem pl_neg {x : Nat} (h : isN x = false) (hs : sg x = true) : pl x = -(rg x : Int) - 1 := by simp [pl, h, hs]
theorem pl_range (x : Nat) : pl x = 9223372036854775807 ∨ (-9218868437227405313 ≤ pl x ∧ pl x ≤ 9218868437227405312) := by
 by_cases h : isN x = true
 ·left; rw [pl_nan h]; rfl
 ·right
  have h' : isN x = false := by simpa using h
  have := isN_false h'
  unfold INF at this
  by_cases hs : sg x = true
  ·rw [pl_neg h' hs]; omega
  ·rw [pl_pos h' (by simpa using hs)]; omega
theorem isN_iff_pl (x : Nat) : isN x = decide (pl x = 9223372036854775807) := by
 by_cases h : isN x = true
 ·rw [h, pl_nan h]; rfl
 ·have h' : isN x = false := by simpa using h
  have := isN_false h'
  unfold INF at this
  rw [h']
  symm
  refine decide_eq_false ?_
  by_cases hs : sg x = true
  ·rw [pl_neg h' hs]; omega
  ·rw [pl_pos h' (by simpa using hs)]; omega
def zk (p : Int) : Int := if p < 0 then p + 1 else p
theorem skey_pl {x : Nat} (h : isN x = false) : skey x = zk (pl x) := by
 unfold skey zk
 by_cases hs : sg x = true
 ·rw [pl_neg h hs, if_pos hs, if_pos (by omega)]; omega
 ·have hs' : sg x = false := by simpa using hs
  rw [pl_pos h hs', if_neg hs, if_neg (by omega)]
def fltP (p q : Int) : Bool := decide (p ≠ 9223372036854775807) && decide (q ≠ 9223372036854775807) && decide (zk p < zk q)
def fleP (p q : Int) : Bool := decide (p ≠ 9223372036854775807) && decide (q ≠ 9223372036854775807) && decide (zk p ≤ zk q)
def feqP (p q : Int) : Bool := decide (p ≠ 9223372036854775807) && decide (q ≠ 9223372036854775807) && decide (zk p = zk q)
theorem order_cases (x y : Nat) (hx : U x) (hy : U y) : FloatKind.f64.format.order x y =
  if fltP (pl x) (pl y) then some .lt else if feqP (pl x) (pl y) then some .eq else if fltP (pl y) (pl x) then some .gt else none := by
 rw [f64_order x y hx hy, isN_iff_pl, isN_iff_pl]
 by_cases h1 : isN x = true
 ·have e := pl_nan h1
  unfold NP at e
  simp [e, fltP, feqP]
 by_cases h2 : isN y = true
 ·have e := pl_nan h2
  unfold NP at e
  simp [e, fltP, feqP]
 simp only [Bool.not_eq_true] at h1 h2
 rw [skey_pl h1, skey_pl h2, compare_int]
 rw [isN_iff_pl] at h1 h2
 have h1' := of_decide_eq_false h1
 have h2' := of_decide_eq_false h2
 simp only [fltP, feqP, h1', h2', decide_false, decide_true, ne_eq, not_false_iff, Bool.true_and, Bool.or_self, Bool.false_eq_true, if_false, decide_eq_true_eq]
 by_cases c1 : zk (pl x) < zk (pl y)
 ·simp [c1]
 ·by_cases c2 : zk (pl x) = zk (pl y)
  ·simp [c2]
  ·simp [c1, c2]; omega
theorem f_lt (x y : Nat) (hx : U x) (hy : U y) : (FloatKind.f64.format.order x y == some Ordering.lt) = fltP (pl x) (pl y) := by
 rw [order_cases x y hx hy]
 cases h : fltP (pl x) (pl y) <;> simp
 split <;> simp
theorem fltP_not {p q : Int} (h : fltP p q = true) : feqP p q = false ∧ fltP q p = false := by
 simp [fltP, feqP] at *; omega
theorem f_eq (x y : Nat) (hx : U x) (hy : U y) : (FloatKind.f64.format.order x y == some Ordering.eq) = feqP (pl x) (pl y) := by
 rw [order_cases x y hx hy]
 cases h : fltP (pl x) (pl y)
 ·cases h' : feqP (pl x) (pl y) <;> simp
 ·rw [(fltP_not h).1]; rfl
theorem f_ne (x y : Nat) (hx : U x) (hy : U y) : (FloatKind.f64.format.order x y != some Ordering.eq) = !feqP (pl x) (pl y) := by
 rw [← f_eq x y hx hy]; rfl
theorem f_gt (x y : Nat) (hx : U x) (hy : U y) : (FloatKind.f64.format.order x y == some Ordering.gt) = fltP (pl y) (pl x) := by
 rw [order_cases x y hx hy]
 cases h : fltP (pl y) (pl x)
 ·cases h' : fltP (pl x) (pl y) <;> cases h'' : feqP (pl x) (pl y) <;> simp
 ·rw [(fltP_not h).2]
  have : feqP (pl x) (pl y) = false := by have := (fltP_not h).1; simp [feqP] at *; omega
  rw [this]; rfl
theorem fleP_eq (p q : Int) : fleP p q = (fltP p q || feqP p q) := by
 rw [Bool.eq_iff_iff]; simp [fleP, fltP, feqP]; omega
theorem feqP_comm (p q : Int) : feqP p q = feqP q p := by
 rw [Bool.eq_iff_iff]; simp [feqP]; omega
theorem f_le (x y : Nat) (hx : U x) (hy : U y) : (FloatKind.f64.format.order x y == some Ordering.lt || FloatKind.f64.format.order x y == some Ordering.eq) = fleP (pl x) (pl y) := by
 rw [f_lt x y hx hy, f_eq x y hx hy, fleP_eq]
theorem f_ge (x y : Nat) (hx : U x) (hy : U y) : (FloatKind.f64.format.order x y == some Ordering.gt || FloatKind.f64.format.order x y == some Ordering.eq) = fleP (pl y) (pl x) := by
 rw [f_gt x y hx hy, f_eq x y hx hy, fleP_eq, feqP_comm]
def ng (x : Nat) : Nat := Op.negFloat .f64 x
theorem xor_top (r : Nat) (h : r < 2 ^ 63) : r ^^^ 2 ^ 63 = 9223372036854775808 + r := by
 rw [show (9223372036854775808 : Nat) + r = 2 ^ 63 ||| r from (nat_join 63 (2 ^ 63) r (by decide) h).symm]
 apply Nat.eq_of_testBit_eq
 intro i
 rw [Nat.testBit_xor, Nat.testBit_or, Nat.testBit_two_pow]
 by_cases hi : 63 = i
 ·subst hi
  rw [Nat.testBit_lt_two_pow h]; rfl
 ·simp [hi]
theorem ng_eq (x : Nat) (h : U x) : ng x = word (!sg x) (rg x) := by
 have hl := rg_lt x
 have e : ng x = x ^^^ 2 ^ 63 := rfl
 have hx := word_self x h.lt
 rw [e]
 cases hs : sg x
 ·rw [hs] at hx
  have h3 : rg x = x := hx
  have h4 := xor_top x (by omega)
  rw [h4, h3]; rfl
 ·rw [hs] at hx
  have h3 : 9223372036854775808 + rg x = x := hx
  have h4 := xor_top (rg x) hl
  rw [h3] at h4
  have h5 : (rg x ^^^ 2 ^ 63) ^^^ 2 ^ 63 = rg x := by rw [Nat.xor_assoc, Nat.xor_self, Nat.xor_zero]
  rw [h4] at h5
  rw [h5]; rfl
theorem U_word (s : Bool) (r : Nat) (h : r < 9223372036854775808) : U (word s r) := by
 unfold U word; cases s <;> simp <;> omega
theorem U_ng {x : Nat} (h : U x) : U (ng x) := by rw [ng_eq x h]; exact U_word _ _ (rg_lt x)
theorem sg_ng {x : Nat} (h : U x) : sg (ng x) = !sg x := by rw [ng_eq x h, sg_word _ _ (rg_lt x)]
theorem rg_ng {x : Nat} (h : U x) : rg (ng x) = rg x := by rw [ng_eq x h, rg_word _ _ (rg_lt x)]
theorem ret_int {k : IntKind} {a b : Int} (h : b = a) : Ending.returned (.int k a) = .returned (.int k b) := by rw [h]
end Go.Proofs.YtlgencbldbpbdaaGreatDoor
namespace Go.Proofs.YtlgencbldbpbdaaGreatDoor
open Go.RowKit Fl
theorem b_or (r : Nat) (h : r < 9223372036854775808) : bits .or .u64 (r : Int) 9223372036854775808 = ((9223372036854775808 + r : Nat) : Int) := by
 rw [show (9223372036854775808 : Int) = ((9223372036854775808 : Nat) : Int) from rfl, u64_or_nat _ _ (by omega) (by omega)]
 congr 1
 rw [Nat.or_comm]
 exact nat_join 63 (2 ^ 63) r (by decide) h
def atW (k : Int) : Nat := if k < 0 then word true (-(k + 1)).toNat else word false k.toNat
theorem U_atW (k : Int) (h1 : -9223372036854775808 ≤ k) (h2 : k ≤ 9223372036854775807) : U (atW k) := by
 unfold atW
 split <;> exact U_word _ _ (by omega)
def QN : Nat := 9221120237041090561
theorem pl_QN : pl QN = 9223372036854775807 := by decide
theorem U_QN : U QN := by unfold U; decide
set_option maxRecDepth 100000 in
theorem c135 (w : World) : Calls Tryz.prog 48 #[] w fun e w' => e = .returned (.float .f64 QN) ∧ w = w' := by
 go_enter Tryz.func48, Tryz.ntmps48
 go_wp2
 go_ret
 exact ⟨rfl, rfl⟩
theorem U_MAX : U 9218868437227405311 := by unfold U; decide
theorem pl_MAX : pl 9218868437227405311 = 9218868437227405311 := by decide
theorem U_0 : U 0 := by unfold U; decide
theorem pl_0 : pl 0 = 0 := by decide
end Go.Proofs.YtlgencbldbpbdaaGreatDoor
namespace Go.Proofs.YtlgencbldbpbdaaGreatDoor
open Go.RowKit Fl
def eM (x : Nat) : Nat := x / 4503599627370496 % 2048
def fM (x : Nat) : Nat := x % 4503599627370496
def pNeg (x : Nat) : Bool := if eM x = 2047 ∧ fM x ≠ 0 then false else sg x
def pCls (x : Nat) : Int := if eM x = 2047 then (if fM x = 0 then 3 else 4) else if eM x = 0 then (if fM x = 0 then 0 else 1) else 2
def pMant (x : Nat) : Nat := if eM x = 2047 then 0 else if eM x = 0 then fM x else 4503599627370496 + fM x
def pExp (x : Nat) : Int := if eM x = 2047 then 0 else if eM x = 0 then (if fM x = 0 then 0 else -1074) else (eM x : Int) - 1075
def partsV (x : Nat) : Value := .agg #[.bool (pNeg x), .int .i64 (pCls x), .int .u64 (pMant x), .int .i64 (pExp x)]
theorem b_or52 (m : Nat) (h : m < 4503599627370496) : bits .or .u64 (m : Int) 4503599627370496 = 4503599627370496 + (m : Int) := by
 rw [show (4503599627370496 : Int) = ((4503599627370496 : Nat) : Int) from rfl, u64_or_nat _ _ (by omega) (by omega)]
 rw [Nat.or_comm, show (4503599627370496 : Nat) ||| m = 4503599627370496 + m from nat_join 52 (2 ^ 52) m (by decide) h]
 omega
theorem sgn_ne (x : Nat) (h : U x) : (bits .and .u64 (x : Int) 9223372036854775808 != 0) = sg x := by
 rw [b_sign x h]; cases sg x <;> rfl
set_option maxRecDepth 100000 in
set_option maxHeartbeats 1000000 in
theorem c30 (x : Nat) (w : World) (hx : U x) : Calls Tryz.prog 133 #[.float .f64 x] w fun e w' => e = .returned (partsV x) ∧ Below w.heap.size w w' := by
 have h1 := sgn_ne x hx
 have h2 := b_frac x hx
 have h3 := b_exp x hx
 have hm : fM x < 4503599627370496 := Nat.mod_lt _ (by decide)
 have he : eM x < 2048 := Nat.mod_lt _ (by decide)
 have h4 := b_or52 (fM x) hm
 have h5 : wrap64 (eM x : Int) = (eM x : Int) := by unfold wrap64; omega
 change bits .and .u64 (x : Int) 4503599627370495 = (fM x : Int) at h2
 change bits .and .u64 ((x : Int) / 4503599627370496) 2047 = (eM x : Int) at h3
 unfold partsV pNeg pCls pMant pExp
 generalize eM x = E at *
 generalize fM x = M at *
 generalize sg x = S at *
 have B1 : ∀ (w : World) (o : Obj), Below w.heap.size w (w.alloc o) := fun w o => (Below.refl _ _).alloc (Nat.le_refl _) _
 have B2 : ∀ (w : World) (o o' : Obj), Below w.heap.size w ((w.alloc o).alloc o') := fun w o o' => ((Below.refl _ _).alloc (Nat.le_refl _) _).alloc (by simp) _
 by_cases cE : E = 2047
 ·subst cE
  by_cases cM : M = 0
  ·subst cM
   go_enter Tryz.func133, Tryz.ntmps133
   go_wp2
   exact bodyPost_ret (v := .agg #[.bool S, .int .i64 3, .int .u64 0, .int .i64 0]) (by simp [results, Tryz.results133, go_sem]) rfl ⟨rfl, B2 _ _ _⟩
  ·have d1 : ((M : Int) != 0) = true := by simp; omega
   simp only [cM, if_true, if_false, ne_eq, not_false_iff, and_self]
   go_enter Tryz.func133, Tryz.ntmps133
   go_wp2
   exact bodyPost_ret (v := .agg #[.bool false, .int .i64 4, .int .u64 0, .int .i64 0]) (by simp [results, Tryz.results133, go_sem]) rfl ⟨rfl, B2 _ _ _⟩
 ·have d0 : ((E : Int) == 2047) = false := by simp; omega
  simp only [cE, if_false, false_and]
  by_cases cE0 : E = 0
  ·subst cE0
   by_cases cM : M = 0
   ·subst cM
    go_enter Tryz.func133, Tryz.ntmps133
    go_wp2
    exact bodyPost_ret (v := .agg #[.bool S, .int .i64 0, .int .u64 0, .int .i64 0]) (by simp [results, Tryz.results133, go_sem]) rfl ⟨rfl, B2 _ _ _⟩
   ·have d1 : ((M : Int) == 0) = false := by simp; omega
    simp only [cM, if_true, if_false]
    go_enter Tryz.func133, Tryz.ntmps133
    go_wp2
    exact bodyPost_ret (v := .agg #[.bool S, .int .i64 1, .int .u64 M, .int .i64 (-1074)]) (by simp [results, Tryz.results133, go_sem]) rfl ⟨rfl, B2 _ _ _⟩
  ·have d1 : ((E : Int) == 0) = false := by simp; omega
   simp only [cE0, if_false]
   go_enter Tryz.func133, Tryz.ntmps133
   go_wp2
   exact bodyPost_ret (v := .agg #[.bool S, .int .i64 2, .int .u64 (4503599627370496 + (M : Int)), .int .i64 ((E : Int) - 1075)]) (by simp [results, Tryz.results133, go_sem]) rfl ⟨by simp, B2 _ _ _⟩
end Go.Proofs.YtlgencbldbpbdaaGreatDoor
