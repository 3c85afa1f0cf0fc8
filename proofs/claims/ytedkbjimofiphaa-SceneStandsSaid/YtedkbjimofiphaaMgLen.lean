/- How many bits a word has: the library's Len64 and the reference's Length. Rounding as the reference does it: Drop, Near, Nearest. Plain laws, third part: products by powers of two; whole numbers as words. math.Ldexp of a normal number without a sign: the nearest number. The walks of Split, and of what Join is made of. -/
import Derived.Test.YtedkbjimofiphaaMgBase
import Derived.Test.YtedkbjimofiphaaLenA
import Derived.Test.YtedkbjimofiphaaMgFl
namespace Go.Proofs.Ytedkbjimofiphaa
open Go.RowKit Fl
def blen (m : Nat) : Nat := if m = 0 then 0 else m.log2 + 1
theorem blen_half (q : Nat) (h : 0 < q) : blen q = blen (q / 2) + 1 := by
  unfold blen
  rw [if_neg (by omega)]
  by_cases c : q / 2 = 0
  · rw [if_pos c, show q = 1 by omega]; rfl
  · rw [if_neg c]
    have h2 : 2 ≤ q := by omega
    rw [Nat.log2_def q, if_pos h2]
theorem blen_lt (q k : Nat) (h : q < 2 ^ k) : blen q ≤ k := by
  unfold blen
  split
  · omega
  · rename_i c; have := (Nat.log2_lt c (k := k)).2 h; omega
theorem lt_blen (q : Nat) : q < 2 ^ blen q := by
  unfold blen
  split
  · rename_i c; rw [c]; decide
  · exact Nat.lt_log2_self
theorem le_blen (q : Nat) (h : 0 < q) : 2 ^ (blen q - 1) ≤ q := by
  unfold blen
  rw [if_neg (by omega), Nat.add_sub_cancel]
  exact Nat.log2_self_le (by omega)
theorem blen_eq : ∀ (k x : Nat), x < 2 ^ k → k ≤ 64 → Lib.bitLen x = blen x
  | 0, x, h, _ => by
    have : x = 0 := by simpa using h
    subst this; decide
  | k + 1, x, h, hk => by
    by_cases h0 : x = 0
    · subst h0; decide
    · have hx : x < 2 ^ 64 := Nat.lt_of_lt_of_le h (Nat.pow_le_pow_right (by omega) hk)
      rw [Lib.bitLen_half x h0 hx, blen_half x (by omega), blen_eq k (x / 2) (by rw [Nat.pow_succ] at h; omega) (by omega)]
      omega
theorem c176 (m : Nat) (w : World) (h : U m) : Calls Try.prog 87 #[.int .u64 m] w fun e w' => e = .returned (.int .i64 (blen m)) ∧ w = w' := by
  have hl := h.lt
  have := len64_any m w (by omega) (by omega)
  rw [Int.toNat_natCast, blen_eq 64 m hl (by omega)] at this
  exact this
end Go.Proofs.Ytedkbjimofiphaa

namespace Go.Proofs.Ytedkbjimofiphaa
open Go.RowKit Fl
theorem two_half (s : Nat) (h : 1 ≤ s) : 2 ^ s = 2 * 2 ^ (s - 1) := by rw [← Nat.pow_succ']; congr 1; omega
/-- The rung nearest to m 2^p. -/
def near (m : Nat) (p : Int) : Nat := rungOf 52 (m * 2 ^ (p + 1074).toNat) (-1074 - p).toNat
theorem b_join (K q : Nat) (hK : K ≤ 2045) (h1 : 4503599627370496 ≤ q) (h2 : q < 9007199254740992) :
    bits .or .u64 (((K : Int) - 1074 + 1075) * 4503599627370496) (bits .and .u64 (q : Int) 4503599627370495) = ((K * 4503599627370496 + q : Nat) : Int) := by
  have e1 : ((K : Int) - 1074 + 1075) * 4503599627370496 = (((K + 1) * 4503599627370496 : Nat) : Int) := by omega
  rw [e1, b_frac q (by unfold U; omega), u64_or_nat _ _ (by omega) (by omega)]
  have hj : (K + 1) * 4503599627370496 ||| q % 4503599627370496 = (K + 1) * 4503599627370496 + q % 4503599627370496 := nat_join 52 ((K + 1) * 4503599627370496) (q % 4503599627370496) (by omega) (by omega)
  rw [hj]
  omega
end Go.Proofs.Ytedkbjimofiphaa

namespace Go.Proofs.Ytedkbjimofiphaa.Fl
open Ieee
theorem B52 : (2 : Nat) ^ 52 = 4503599627370496 := by decide
end Go.Proofs.Ytedkbjimofiphaa.Fl

namespace Go.Proofs.Ytedkbjimofiphaa
open Go.RowKit Fl
theorem U_rg (x : Nat) : U (rg x) := by have := rg_lt x; unfold U; omega
theorem sg_rg (x : Nat) : sg (rg x) = false := by unfold sg; have := rg_lt x; exact decide_eq_false (by omega)
theorem rg_rg (x : Nat) : rg (rg x) = rg x := Nat.mod_eq_of_lt (rg_lt x)
set_option maxRecDepth 100000 in
theorem c133 (x : Nat) (w : World) (hx : U x) : Calls Try.prog 42 #[.float .f64 x] w fun e w' => e = .returned (.float .f64 (rg x)) ∧ w = w' := by
  have h2 := b_mag x hx
  go_enter Try.func42, Try.ntmps42
  go_wp2
  go_ret
  exact ⟨rfl, rfl⟩
set_option maxRecDepth 100000 in
theorem c129 (x : Nat) (w : World) (hx : U x) : Calls Try.prog 37 #[.float .f64 x] w fun e w' => e = .returned (.bool (isN x)) ∧ w = w' := by
  have h2 := neq_self x hx
  go_enter Try.func37, Try.ntmps37
  go_wp2
  go_ret
  exact ⟨rfl, rfl⟩
def isI (x : Nat) : Bool := decide (rg x = 9218868437227405312)
theorem isI_eq (x : Nat) : fltP 9218868437227405311 (pl (rg x)) = isI x := by
  unfold isI
  have hr := rg_lt x
  cases hn : isN (rg x)
  · have h1 := isN_false hn
    rw [rg_rg] at h1
    have : pl (rg x) = (rg x : Int) := by rw [pl_pos hn (sg_rg x), rg_rg]
    rw [this, Bool.eq_iff_iff]
    unfold INF at h1
    simp [fltP, zk]; omega
  · rw [pl_nan hn]
    have h1 := isN_true hn
    rw [rg_rg] at h1
    unfold INF at h1
    symm
    exact decide_eq_false (by omega)
set_option maxRecDepth 100000 in
theorem c130 (x : Nat) (w : World) (hx : U x) : Calls Try.prog 45 #[.float .f64 x, .int .i64 0] w fun e w' => e = .returned (.bool (isI x)) ∧ w = w' := by
  have e2 := f_gt (rg x) 9218868437227405311 (U_rg x) U_MAX
  rw [pl_MAX, isI_eq] at e2
  go_enter Try.func45, Try.ntmps45
  go_wp2_with (go_at_call 42; refine (c133 _ _ (by assumption)).mono ?_; rintro e w' ⟨rfl, rfl⟩)
  go_ret
  exact ⟨rfl, rfl⟩
set_option maxRecDepth 100000 in
theorem c137p (w : World) : Calls Try.prog 49 #[.int .i64 1] w fun e w' => e = .returned (.float .f64 9218868437227405312) ∧ w = w' := by
  go_enter Try.func49, Try.ntmps49
  go_wp2
  go_ret
  exact ⟨rfl, rfl⟩
set_option maxRecDepth 100000 in
theorem c137n (w : World) : Calls Try.prog 49 #[.int .i64 (-1)] w fun e w' => e = .returned (.float .f64 18442240474082181120) ∧ w = w' := by
  go_enter Try.func49, Try.ntmps49
  go_wp2
  go_ret
  exact ⟨rfl, rfl⟩
/-- the word of a normal number without a sign -/
def nw (E F : Nat) : Nat := E * 4503599627370496 + F
theorem b_field (e F : Nat) (h2 : e ≤ 2046) (hF : F < 4503599627370496) : bits .or .u64 (F : Int) ((e : Int) * 4503599627370496) = ((nw e F : Nat) : Int) := by
  have e1 : (e : Int) * 4503599627370496 = ((e * 4503599627370496 : Nat) : Int) := by omega
  rw [e1, u64_or_nat _ _ (by omega) (by omega), Nat.or_comm]
  have hj : e * 4503599627370496 ||| F = e * 4503599627370496 + F := nat_join 52 (e * 4503599627370496) F (by omega) (by omega)
  rw [hj]; rfl
set_option maxRecDepth 100000 in
theorem c175 (f s : Nat) (w : World) (hf : U f) (hs : U s) : Calls Try.prog 73 #[.float .f64 f, .float .f64 s] w fun e w' => e = .returned (.float .f64 (word (sg s) (rg f))) ∧ w = w' := by
  have h1 := b_mag f hf
  have h2 := b_sign s hs
  cases c : sg s
  · rw [c, if_neg (by decide)] at h2
    have h3 : bits .or .u64 (rg f : Int) 0 = (rg f : Int) := by
      have := rg_lt f
      rw [show (0 : Int) = ((0 : Nat) : Int) from rfl, u64_or_nat _ _ (by omega) (by omega), Nat.or_zero]
    go_enter Try.func73, Try.ntmps73
    go_wp2
    go_ret
    exact ⟨rfl, rfl⟩
  · rw [c, if_pos rfl] at h2
    have h3 := b_or (rg f) (rg_lt f)
    go_enter Try.func73, Try.ntmps73
    go_wp2
    go_ret
    exact ⟨rfl, rfl⟩
end Go.Proofs.Ytedkbjimofiphaa

namespace Go.Proofs.Ytedkbjimofiphaa
open Go.RowKit Fl
def eM (x : Nat) : Nat := x / 4503599627370496 % 2048
def fM (x : Nat) : Nat := x % 4503599627370496
def pNeg (x : Nat) : Bool := if eM x = 2047 ∧ fM x ≠ 0 then false else sg x
def pCls (x : Nat) : Int := if eM x = 2047 then (if fM x = 0 then 3 else 4) else if eM x = 0 then (if fM x = 0 then 0 else 1) else 2
def pMant (x : Nat) : Nat := if eM x = 2047 then 0 else if eM x = 0 then fM x else 4503599627370496 + fM x
def pExp (x : Nat) : Int := if eM x = 2047 then 0 else if eM x = 0 then (if fM x = 0 then 0 else -1074) else (eM x : Int) - 1075
def partsV (x : Nat) : Value := .agg #[.bool (pNeg x), .int .i64 (pCls x), .int .u64 (pMant x), .int .i64 (pExp x)]
theorem b_or52 (m : Nat) (h : m < 4503599627370496) : bits .or .u64 (m : Int) 4503599627370496 = 4503599627370496 + (m : Int) := by
  rw [show (4503599627370496 : Int) = ((4503599627370496 : Nat) : Int) from rfl, u64_or_nat _ _ (by omega) (by omega)]
  rw [Nat.or_comm, show (4503599627370496 : Nat) ||| m = 4503599627370496 + m from nat_join 52 (2 ^ 52) m (by decide) h]
  omega
theorem sgn_ne (x : Nat) (h : U x) : (bits .and .u64 (x : Int) 9223372036854775808 != 0) = sg x := by
  rw [b_sign x h]; cases sg x <;> rfl
set_option maxRecDepth 100000 in
set_option maxHeartbeats 1000000 in
theorem c30 (x : Nat) (w : World) (hx : U x) : Calls Try.prog 77 #[.float .f64 x] w fun e w' => e = .returned (partsV x) ∧ Below w.heap.size w w' := by
  have h1 := sgn_ne x hx
  have h2 := b_frac x hx
  have h3 := b_exp x hx
  have hm : fM x < 4503599627370496 := Nat.mod_lt _ (by decide)
  have he : eM x < 2048 := Nat.mod_lt _ (by decide)
  have h4 := b_or52 (fM x) hm
  have h5 : wrap64 (eM x : Int) = (eM x : Int) := by unfold wrap64; omega
  change bits .and .u64 (x : Int) 4503599627370495 = (fM x : Int) at h2
  change bits .and .u64 ((x : Int) / 4503599627370496) 2047 = (eM x : Int) at h3
  unfold partsV pNeg pCls pMant pExp
  generalize eM x = E at *
  generalize fM x = M at *
  generalize sg x = S at *
  have B1 : ∀ (w : World) (o : Obj), Below w.heap.size w (w.alloc o) := fun w o => (Below.refl _ _).alloc (Nat.le_refl _) _
  have B2 : ∀ (w : World) (o o' : Obj), Below w.heap.size w ((w.alloc o).alloc o') := fun w o o' => ((Below.refl _ _).alloc (Nat.le_refl _) _).alloc (by simp) _
  by_cases cE : E = 2047
  · subst cE
    by_cases cM : M = 0
    · subst cM
      go_enter Try.func77, Try.ntmps77
      go_wp2
      exact bodyPost_ret (v := .agg #[.bool S, .int .i64 3, .int .u64 0, .int .i64 0]) (by simp [results, Try.results77, go_sem]) rfl ⟨rfl, B2 _ _ _⟩
    · have d1 : ((M : Int) != 0) = true := by simp; omega
      simp only [cM, if_true, if_false, ne_eq, not_false_iff, and_self]
      go_enter Try.func77, Try.ntmps77
      go_wp2
      exact bodyPost_ret (v := .agg #[.bool false, .int .i64 4, .int .u64 0, .int .i64 0]) (by simp [results, Try.results77, go_sem]) rfl ⟨rfl, B2 _ _ _⟩
  · have d0 : ((E : Int) == 2047) = false := by simp; omega
    simp only [cE, if_false, false_and]
    by_cases cE0 : E = 0
    · subst cE0
      by_cases cM : M = 0
      · subst cM
        go_enter Try.func77, Try.ntmps77
        go_wp2
        exact bodyPost_ret (v := .agg #[.bool S, .int .i64 0, .int .u64 0, .int .i64 0]) (by simp [results, Try.results77, go_sem]) rfl ⟨rfl, B2 _ _ _⟩
      · have d1 : ((M : Int) == 0) = false := by simp; omega
        simp only [cM, if_true, if_false]
        go_enter Try.func77, Try.ntmps77
        go_wp2
        exact bodyPost_ret (v := .agg #[.bool S, .int .i64 1, .int .u64 M, .int .i64 (-1074)]) (by simp [results, Try.results77, go_sem]) rfl ⟨rfl, B2 _ _ _⟩
    · have d1 : ((E : Int) == 0) = false := by simp; omega
      simp only [cE0, if_false]
      go_enter Try.func77, Try.ntmps77
      go_wp2
      exact bodyPost_ret (v := .agg #[.bool S, .int .i64 2, .int .u64 (4503599627370496 + (M : Int)), .int .i64 ((E : Int) - 1075)]) (by simp [results, Try.results77, go_sem]) rfl ⟨by simp, B2 _ _ _⟩
end Go.Proofs.Ytedkbjimofiphaa
