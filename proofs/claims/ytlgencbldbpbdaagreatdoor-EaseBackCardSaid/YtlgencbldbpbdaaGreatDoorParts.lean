/- The walks of Split, and of what Join is made of. -/
import Derived.Test.YtlgencbldbpbdaaGreatDoorMgBase
namespace Go.Proofs.YtlgencbldbpbdaaGreatDoor
open Go.RowKit Fl
def eM (x : Nat) : Nat := x / 4503599627370496 % 2048
def fM (x : Nat) : Nat := x % 4503599627370496
def pNeg (x : Nat) : Bool := if eM x = 2047 ∧ fM x ≠ 0 then false else sg x
def pCls (x : Nat) : Int := if eM x = 2047 then (if fM x = 0 then 3 else 4) else if eM x = 0 then (if fM x = 0 then 0 else 1) else 2
def pMant (x : Nat) : Nat := if eM x = 2047 then 0 else if eM x = 0 then fM x else 4503599627370496 + fM x
def pExp (x : Nat) : Int := if eM x = 2047 then 0 else if eM x = 0 then (if fM x = 0 then 0 else -1074) else (eM x : Int) - 1075
def partsV (x : Nat) : Value := .agg #[.bool (pNeg x), .int .i64 (pCls x), .int .u64 (pMant x), .int .i64 (pExp x)]
theorem b_or52 (m : Nat) (h : m < 4503599627370496) : bits .or .u64 (m : Int) 4503599627370496 = 4503599627370496 + (m : Int) := by
  rw [show (4503599627370496 : Int) = ((4503599627370496 : Nat) : Int) from rfl, u64_or_nat _ _ (by omega) (by omega)]
  rw [Nat.or_comm, show (4503599627370496 : Nat) ||| m = 4503599627370496 + m from nat_join 52 (2 ^ 52) m (by decide) h]
  omega
theorem sgn_ne (x : Nat) (h : U x) : (bits .and .u64 (x : Int) 9223372036854775808 != 0) = sg x := by
  rw [b_sign x h]; cases sg x <;> rfl
set_option maxRecDepth 100000 in
set_option maxHeartbeats 1000000 in
theorem c30 (x : Nat) (w : World) (hx : U x) : Calls Tryz.prog 133 #[.float .f64 x] w fun e w' => e = .returned (partsV x) ∧ Below w.heap.size w w' := by
  have h1 := sgn_ne x hx
  have h2 := b_frac x hx
  have h3 := b_exp x hx
  have hm : fM x < 4503599627370496 := Nat.mod_lt _ (by decide)
  have he : eM x < 2048 := Nat.mod_lt _ (by decide)
  have h4 := b_or52 (fM x) hm
  have h5 : wrap64 (eM x : Int) = (eM x : Int) := by unfold wrap64; omega
  change bits .and .u64 (x : Int) 4503599627370495 = (fM x : Int) at h2
  change bits .and .u64 ((x : Int) / 4503599627370496) 2047 = (eM x : Int) at h3
  unfold partsV pNeg pCls pMant pExp
  generalize eM x = E at *
  generalize fM x = M at *
  generalize sg x = S at *
  have B1 : ∀ (w : World) (o : Obj), Below w.heap.size w (w.alloc o) := fun w o => (Below.refl _ _).alloc (Nat.le_refl _) _
  have B2 : ∀ (w : World) (o o' : Obj), Below w.heap.size w ((w.alloc o).alloc o') := fun w o o' => ((Below.refl _ _).alloc (Nat.le_refl _) _).alloc (by simp) _
  by_cases cE : E = 2047
  · subst cE
    by_cases cM : M = 0
    · subst cM
      go_enter Tryz.func133, Tryz.ntmps133
      go_wp2
      exact bodyPost_ret (v := .agg #[.bool S, .int .i64 3, .int .u64 0, .int .i64 0]) (by simp [results, Tryz.results133, go_sem]) rfl ⟨rfl, B2 _ _ _⟩
    · have d1 : ((M : Int) != 0) = true := by simp; omega
      simp only [cM, if_true, if_false, ne_eq, not_false_iff, and_self]
      go_enter Tryz.func133, Tryz.ntmps133
      go_wp2
      exact bodyPost_ret (v := .agg #[.bool false, .int .i64 4, .int .u64 0, .int .i64 0]) (by simp [results, Tryz.results133, go_sem]) rfl ⟨rfl, B2 _ _ _⟩
  · have d0 : ((E : Int) == 2047) = false := by simp; omega
    simp only [cE, if_false, false_and]
    by_cases cE0 : E = 0
    · subst cE0
      by_cases cM : M = 0
      · subst cM
        go_enter Tryz.func133, Tryz.ntmps133
        go_wp2
        exact bodyPost_ret (v := .agg #[.bool S, .int .i64 0, .int .u64 0, .int .i64 0]) (by simp [results, Tryz.results133, go_sem]) rfl ⟨rfl, B2 _ _ _⟩
      · have d1 : ((M : Int) == 0) = false := by simp; omega
        simp only [cM, if_true, if_false]
        go_enter Tryz.func133, Tryz.ntmps133
        go_wp2
        exact bodyPost_ret (v := .agg #[.bool S, .int .i64 1, .int .u64 M, .int .i64 (-1074)]) (by simp [results, Tryz.results133, go_sem]) rfl ⟨rfl, B2 _ _ _⟩
    · have d1 : ((E : Int) == 0) = false := by simp; omega
      simp only [cE0, if_false]
      go_enter Tryz.func133, Tryz.ntmps133
      go_wp2
      exact bodyPost_ret (v := .agg #[.bool S, .int .i64 2, .int .u64 (4503599627370496 + (M : Int)), .int .i64 ((E : Int) - 1075)]) (by simp [results, Tryz.results133, go_sem]) rfl ⟨by simp, B2 _ _ _⟩
end Go.Proofs.YtlgencbldbpbdaaGreatDoor
