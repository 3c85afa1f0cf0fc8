/- Plain, and a list of floats in memory. Exact. Same, Two. -/
import Derived.Test.YtelalledjbeenaaMgAccI
namespace Go.Proofs.Ytelalledjbeenaa
open Go.RowKit Fl

/-- a list of floats lies in block b from o on -/
structure FL (w : World) (b o : Nat) (l : List Nat) : Prop where
  cell : ∀ j x : Nat, l[j]? = some x → w.cell? ⟨b, o + j, none⟩ = some (.float .f64 x)
  u : ∀ j x : Nat, l[j]? = some x → U x
  lt : b < w.heap.size
theorem FL.below {w w' : World} {b o : Nat} {l : List Nat} (h : FL w b o l) (hb : Below w.heap.size w w') : FL w' b o l :=
  ⟨fun j x hj => (hb.cell (p := ⟨b, o + j, none⟩) h.lt).trans (h.cell j x hj), h.u, Nat.lt_of_lt_of_le h.lt hb.size⟩
/-- the place of the plain sum -/
def plainP (l : List Nat) : Int := l.foldl (fun p x => opP .add p (pl x)) (-1)
theorem plainP_take (l : List Nat) (k x : Nat) (h : l[k]? = some x) : plainP (l.take (k + 1)) = opP .add (plainP (l.take k)) (pl x) := by
  unfold plainP
  rw [List.take_add_one, h, List.foldl_append]; rfl
set_option maxRecDepth 100000 in
set_option maxHeartbeats 1000000 in
theorem c26 (b o c : Nat) (l : List Nat) (w : World) (h : FL w b o l) (hl : l.length < 4611686018427387904) :
    Calls Try.prog 26 #[.slice (some ⟨b, o, none⟩) l.length c] w fun e w' => RetF (plainP l) e ∧ Below w.heap.size w w' := by
  have H := Lib.hid h
  have HL := Lib.hid hl
  go_enter Try.func26, Try.ntmps26
  go_wp2_with (first | (go_at_call 131; refine (c131 _).mono ?_; rintro e w' ⟨rfl, rfl⟩))
  go_loopw [3, 9] (fun v i wx => ∃ (k r : Nat), k ≤ l.length ∧ i = .int .i64 k ∧ v = .float .f64 r ∧ Hid (U r ∧ pl r = plainP (l.take k)) ∧ Hid (Below w.heap.size w wx)) (fun _ i _ => l.length - (intOf i).toNat)
  case atStart => exact ⟨0, 9223372036854775808, by omega, rfl, rfl, Lib.hid ⟨by unfold U; decide, by rw [List.take_zero]; decide⟩, Lib.hid (Below.refl _ _)⟩
  case round =>
    obtain ⟨k, r, hk, rfl, rfl, hr, hB⟩ := hrel
    by_cases hlt : k < l.length
    · have hki : (k : Int) < (l.length : Int) := by omega
      obtain ⟨x, hx⟩ : ∃ x, l[k]? = some x := ⟨l[k], List.getElem?_eq_getElem hlt⟩
      have HX := Lib.hid hx
      have HLT := Lib.hid hlt
      have B2 := Lib.hid (Bd hB.out (fopN .add r x))
      have R2 : Hid (∀ wx : World, U (fop .add r x wx) ∧ pl (fop .add r x wx) = plainP (l.take (k + 1))) := Lib.hid fun wx => ⟨U_fop _ _ _ _, by rw [pl_fop .add r x wx hr.out.1 (H.out.u k x hx), hr.out.2, plainP_take l k x hx]⟩
      have kc := (H.out.below hB.out).cell k x hx
      have hf := fun w => run_fop (P := Try.prog) .add rfl 24 r x w
      clear hx h hlt
      go_wp2
      go_roundw
      case rel => exact ⟨k + 1, _, by have := HLT.out; omega, by go_num, rfl, Lib.hid (R2.out _), B2⟩
      case measure => have := HLT.out; simp [intOf]; omega
    · have hki : ¬ (k : Int) < (l.length : Int) := by omega
      have hkl : k = l.length := by omega
      have HR : Hid (RetF (plainP l) (.returned (.float .f64 r))) := Lib.hid ⟨r, rfl, hr.out.1, by rw [hr.out.2, hkl, List.take_length]⟩
      clear hlt hkl h
      go_wp2
      go_ret
      exact ⟨HR.out, hB.out⟩
end Go.Proofs.Ytelalledjbeenaa

namespace Go.Proofs.Ytelalledjbeenaa
open Go.RowKit Fl

def accS (l : List Nat) : AS := l.foldl addS AS.zero
theorem accS_take (l : List Nat) (k x : Nat) (h : l[k]? = some x) : accS (l.take (k + 1)) = addS (accS (l.take k)) x := by
  unfold accS
  rw [List.take_add_one, h, List.foldl_append]; rfl
def B2098 : Int := 2 ^ 2098
theorem pow2_le (k m : Nat) (h : k ≤ m) : (2 : Nat) ^ k ≤ 2 ^ m := Nat.pow_le_pow_right (by decide) h
theorem mul_pow_le (a m k j : Nat) (h1 : a ≤ 2 ^ m) (h2 : k ≤ j) : a * 2 ^ k ≤ 2 ^ (m + j) := by
  rw [Nat.pow_add]; exact Nat.mul_le_mul h1 (pow2_le _ _ h2)
theorem cast_le (a m k j t : Nat) (h1 : a ≤ 2 ^ m) (h2 : k ≤ j) (ht : m + j = t) : ((a * 2 ^ k : Nat) : Int) ≤ (2 : Int) ^ t := by
  subst ht
  have := Int.ofNat_le.2 (mul_pow_le a m k j h1 h2)
  rw [Int.natCast_pow] at this
  exact this
theorem ipow_le (k m t : Nat) (h : k + m ≤ t) : (2 : Int) ^ k * 2 ^ m ≤ 2 ^ t := by
  rw [← Int.pow_add]
  have h2 := Int.ofNat_le.2 (pow2_le (k + m) t h)
  rw [Int.natCast_pow, Int.natCast_pow] at h2
  exact h2
theorem un_bound (x : Nat) (h : fin x = true) : -B2098 ≤ un x ∧ un x ≤ B2098 := by
  have hv : ((val 52 (rg x) : Nat) : Int) ≤ B2098 := by
    rw [val_mm]
    have h1 := mM_lt x
    exact cast_le (mM x) 53 (mE x) 2045 2098 (by omega) (mE_le x h) rfl
  have h0 : (0 : Int) ≤ B2098 := Int.le_trans (Int.natCast_nonneg _) hv
  unfold un
  split <;> omega
theorem acc_bound (l : List Nat) : ∀ s : AS, s.z - l.length * B2098 ≤ (l.foldl addS s).z ∧ (l.foldl addS s).z ≤ s.z + l.length * B2098 := by
  induction l with
  | nil => intro s; simp
  | cons x r ih =>
    intro s
    have h0 : (0 : Int) ≤ B2098 := by unfold B2098; exact Int.le_of_lt (Int.pow_pos (by decide))
    have h := ih (addS s x)
    have hz : s.z - B2098 ≤ (addS s x).z ∧ (addS s x).z ≤ s.z + B2098 := by
      unfold addS
      by_cases hf : fin x = true
      · have := un_bound x hf
        simp only [hf, if_true]; omega
      · simp only [hf, if_false, Bool.false_eq_true]; omega
    rw [List.foldl_cons, List.length_cons, Int.natCast_add, Int.add_mul]
    omega
theorem acc_small (l : List Nat) (hl : l.length < 4611686018427387904) : -B2559 < (accS l).z ∧ (accS l).z < B2559 := by
  have h := acc_bound l AS.zero
  have h0 : (0 : Int) < B2098 := by unfold B2098; exact Int.pow_pos (by decide)
  have hb : (4611686018427387904 : Int) * B2098 ≤ B2559 := by
    rw [show (4611686018427387904 : Int) = 2 ^ 62 by rfl]
    exact ipow_le 62 2098 2559 (by decide)
  have hm : (l.length : Int) * B2098 < 4611686018427387904 * B2098 := Int.mul_lt_mul_of_pos_right (by omega) h0
  unfold accS
  have : AS.zero.z = 0 := rfl
  omega

set_option maxRecDepth 100000 in
set_option maxHeartbeats 1000000 in
theorem c23 (b o c : Nat) (l : List Nat) (w : World) (h : FL w b o l) (hl : l.length < 4611686018427387904) :
    Calls Try.prog 23 #[.slice (some ⟨b, o, none⟩) l.length c] w fun e w' => RetF (pV (accS l)) e ∧ Below w.heap.size w w' := by
  have H := Lib.hid h
  have HZ := Lib.hid (acc_small l hl)
  go_enter Try.func23, Try.ntmps23
  go_wp2_with (go_at_call 35; fail)
  refine (c35 _).mono ?_
  rintro e w1 ⟨rfl, ha, hb1, hs1⟩
  have A0 := Lib.hid ha
  have B0 := Lib.hid hb1
  have S0 := Lib.hid hs1
  clear ha hb1 hs1
  go_wp2_with fail
  go_loopw [9] (fun i wx => ∃ k : Nat, k ≤ l.length ∧ i = .int .i64 k ∧ Hid (AccAt wx w.heap.size (accS (l.take k))) ∧ Hid (Below w.heap.size w wx) ∧ Hid (w.heap.size < wx.heap.size)) (fun i _ => l.length - (intOf i).toNat)
  case atStart => exact ⟨0, by omega, rfl, A0, B0, S0⟩
  case round =>
    obtain ⟨k, hk, rfl, hA, hB, hS⟩ := hrel
    by_cases hlt : k < l.length
    · have hki : (k : Int) < (l.length : Int) := by omega
      obtain ⟨x, hx⟩ : ∃ x, l[k]? = some x := ⟨l[k], List.getElem?_eq_getElem hlt⟩
      have HX := Lib.hid hx
      have HLT := Lib.hid hlt
      have HU := Lib.hid (H.out.u k x hx)
      have kc := (H.out.below hB.out).cell k x hx
      clear hx h hlt A0 B0 S0
      go_wp2_with (go_at_call 37; fail)
      refine (c37 _ _ x _ HU.out hA.out hS.out).mono ?_
      rintro e w2 ⟨rfl, ha2, ho2⟩
      have A2 : Hid (AccAt w2 w.heap.size (accS (l.take (k + 1)))) := Lib.hid (by rw [accS_take l k x HX.out]; exact ha2)
      have B2 := Lib.hid (ho2.below (Nat.le_refl _) (Nat.le_of_lt hS.out) hB.out)
      have S2 := Lib.hid (Nat.lt_of_lt_of_le hS.out ho2.size)
      clear ha2 ho2 kc
      go_wp2
      go_roundw
      case rel => exact ⟨k + 1, by have := HLT.out; omega, by go_num, A2, B2, S2⟩
      case measure => have := HLT.out; simp [intOf]; omega
    · have hki : ¬ (k : Int) < (l.length : Int) := by omega
      have hkl : k = l.length := by omega
      have hA2 : Hid (AccAt _ w.heap.size (accS l)) := Lib.hid (by have := hA.out; rw [hkl, List.take_length] at this; exact this)
      clear hlt hkl h A0 B0 S0 hA
      go_wp2_with (go_at_call 39; fail)
      refine (c39 _ _ _ hA2.out hS.out HZ.out.1 HZ.out.2).mono ?_
      rintro e w2 ⟨⟨r, rfl, hr⟩, hb2⟩
      have HB := Lib.hid (hB.out.trans (hb2.mono hB.out.size))
      have HR := Lib.hid hr
      clear hb2 hr
      go_wp2
      go_ret
      exact ⟨⟨r, rfl, HR.out⟩, HB.out⟩
end Go.Proofs.Ytelalledjbeenaa

namespace Go.Proofs.Ytelalledjbeenaa
open Go.RowKit Fl

set_option maxRecDepth 100000 in
theorem c24 (x y : Nat) (w : World) (hx : U x) (hy : U y) : Calls Try.prog 24 #[.float .f64 x, .float .f64 y] w fun e w' => e = .returned (.bool (pl x == pl y)) ∧ w = w' := by
  have h := same_bits hx hy
  have e1 := neq_self x hx
  have e2 := neq_self y hy
  have e3 : ((x : Int) == (y : Int)) = (x == y) := by rw [Bool.eq_iff_iff]; simp; omega
  rw [← h]
  clear h
  cases h1 : (x == y) <;> cases h2 : isN x <;> cases h3 : isN y
  all_goals
    rw [h2] at e1
    rw [h3] at e2
    rw [h1] at e3
    clear h1 h2 h3
    go_enter Try.func24, Try.ntmps24
    go_wp2
    go_ret
    exact ⟨rfl, rfl⟩

set_option maxRecDepth 100000 in
/-- no numbers: nought below -/
theorem c26z (A : Option Addr) (c : Nat) (w : World) : Calls Try.prog 26 #[.slice A 0 c] w fun e w' => e = .returned (.float .f64 9223372036854775808) ∧ w = w' := by
  go_enter Try.func26, Try.ntmps26
  go_wp2_with (first | (go_at_call 131; refine (c131 _).mono ?_; rintro e w' ⟨rfl, rfl⟩))
  go_loop [3, 9] (fun v i => v = .float .f64 9223372036854775808 ∧ i = .int .i64 0) (fun _ i => 1 - (intOf i).toNat)
  case atStart => exact ⟨rfl, rfl⟩
  case round =>
    obtain ⟨rfl, rfl⟩ := hrel
    go_wp2
    go_ret
    exact ⟨rfl, rfl⟩

/-- what is lost in a sum -/
def lostS (x y s : Nat) : AS := addS (addS (addS AS.zero x) y) (ng s)
theorem accS3 (x y z : Nat) : accS [x, y, z] = addS (addS (addS AS.zero x) y) z := rfl
/-- the sum is a number's: what is lost -/
def twoP (x y s : Nat) : Int := pV (lostS x y s)
end Go.Proofs.Ytelalledjbeenaa
