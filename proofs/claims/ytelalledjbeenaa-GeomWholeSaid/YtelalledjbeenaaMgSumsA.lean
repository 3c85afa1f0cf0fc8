/- Plain, and a list of floats in memory. Exact. Same, Two. Two. Exact of no numbers. Held: the closure. Held. Held. -/
import Derived.Test.YtelalledjbeenaaMgAccH
namespace Go.Proofs.Ytelalledjbeenaa
open Go.RowKit Fl

/-- a list of floats lies in block b from o on -/
structure FL (w : World) (b o : Nat) (l : List Nat) : Prop where
  cell : ∀ j x : Nat, l[j]? = some x → w.cell? ⟨b, o + j, none⟩ = some (.float .f64 x)
  u : ∀ j x : Nat, l[j]? = some x → U x
  lt : b < w.heap.size
theorem FL.below {w w' : World} {b o : Nat} {l : List Nat} (h : FL w b o l) (hb : Below w.heap.size w w') : FL w' b o l :=
  ⟨fun j x hj => (hb.cell (p := ⟨b, o + j, none⟩) h.lt).trans (h.cell j x hj), h.u, Nat.lt_of_lt_of_le h.lt hb.size⟩
/-- the place of the plain sum -/
def plainP (l : List Nat) : Int := l.foldl (fun p x => opP .add p (pl x)) (-1)
theorem plainP_take (l : List Nat) (k x : Nat) (h : l[k]? = some x) : plainP (l.take (k + 1)) = opP .add (plainP (l.take k)) (pl x) := by
  unfold plainP
  rw [List.take_add_one, h, List.foldl_append]; rfl
set_option maxRecDepth 100000 in
set_option maxHeartbeats 1000000 in
theorem c26 (b o c : Nat) (l : List Nat) (w : World) (h : FL w b o l) (hl : l.length < 4611686018427387904) :
    Calls Try.prog 26 #[.slice (some ⟨b, o, none⟩) l.length c] w fun e w' => RetF (plainP l) e ∧ Below w.heap.size w w' := by
  have H := Lib.hid h
  have HL := Lib.hid hl
  go_enter Try.func26, Try.ntmps26
  go_wp2_with (first | (go_at_call 131; refine (c131 _).mono ?_; rintro e w' ⟨rfl, rfl⟩))
  go_loopw [3, 9] (fun v i wx => ∃ (k r : Nat), k ≤ l.length ∧ i = .int .i64 k ∧ v = .float .f64 r ∧ Hid (U r ∧ pl r = plainP (l.take k)) ∧ Hid (Below w.heap.size w wx)) (fun _ i _ => l.length - (intOf i).toNat)
  case atStart => exact ⟨0, 9223372036854775808, by omega, rfl, rfl, Lib.hid ⟨by unfold U; decide, by rw [List.take_zero]; decide⟩, Lib.hid (Below.refl _ _)⟩
  case round =>
    obtain ⟨k, r, hk, rfl, rfl, hr, hB⟩ := hrel
    by_cases hlt : k < l.length
    · have hki : (k : Int) < (l.length : Int) := by omega
      obtain ⟨x, hx⟩ : ∃ x, l[k]? = some x := ⟨l[k], List.getElem?_eq_getElem hlt⟩
      have HX := Lib.hid hx
      have HLT := Lib.hid hlt
      have B2 := Lib.hid (Bd hB.out (fopN .add r x))
      have R2 : Hid (∀ wx : World, U (fop .add r x wx) ∧ pl (fop .add r x wx) = plainP (l.take (k + 1))) := Lib.hid fun wx => ⟨U_fop _ _ _ _, by rw [pl_fop .add r x wx hr.out.1 (H.out.u k x hx), hr.out.2, plainP_take l k x hx]⟩
      have kc := (H.out.below hB.out).cell k x hx
      have hf := fun w => run_fop (P := Try.prog) .add rfl 24 r x w
      clear hx h hlt
      go_wp2
      go_roundw
      case rel => exact ⟨k + 1, _, by have := HLT.out; omega, by go_num, rfl, Lib.hid (R2.out _), B2⟩
      case measure => have := HLT.out; simp [intOf]; omega
    · have hki : ¬ (k : Int) < (l.length : Int) := by omega
      have hkl : k = l.length := by omega
      have HR : Hid (RetF (plainP l) (.returned (.float .f64 r))) := Lib.hid ⟨r, rfl, hr.out.1, by rw [hr.out.2, hkl, List.take_length]⟩
      clear hlt hkl h
      go_wp2
      go_ret
      exact ⟨HR.out, hB.out⟩
end Go.Proofs.Ytelalledjbeenaa

namespace Go.Proofs.Ytelalledjbeenaa
open Go.RowKit Fl

def accS (l : List Nat) : AS := l.foldl addS AS.zero
theorem accS_take (l : List Nat) (k x : Nat) (h : l[k]? = some x) : accS (l.take (k + 1)) = addS (accS (l.take k)) x := by
  unfold accS
  rw [List.take_add_one, h, List.foldl_append]; rfl
def B2098 : Int := 2 ^ 2098
theorem pow2_le (k m : Nat) (h : k ≤ m) : (2 : Nat) ^ k ≤ 2 ^ m := Nat.pow_le_pow_right (by decide) h
theorem mul_pow_le (a m k j : Nat) (h1 : a ≤ 2 ^ m) (h2 : k ≤ j) : a * 2 ^ k ≤ 2 ^ (m + j) := by
  rw [Nat.pow_add]; exact Nat.mul_le_mul h1 (pow2_le _ _ h2)
theorem cast_le (a m k j t : Nat) (h1 : a ≤ 2 ^ m) (h2 : k ≤ j) (ht : m + j = t) : ((a * 2 ^ k : Nat) : Int) ≤ (2 : Int) ^ t := by
  subst ht
  have := Int.ofNat_le.2 (mul_pow_le a m k j h1 h2)
  rw [Int.natCast_pow] at this
  exact this
theorem ipow_le (k m t : Nat) (h : k + m ≤ t) : (2 : Int) ^ k * 2 ^ m ≤ 2 ^ t := by
  rw [← Int.pow_add]
  have h2 := Int.ofNat_le.2 (pow2_le (k + m) t h)
  rw [Int.natCast_pow, Int.natCast_pow] at h2
  exact h2
theorem un_bound (x : Nat) (h : fin x = true) : -B2098 ≤ un x ∧ un x ≤ B2098 := by
  have hv : ((val 52 (rg x) : Nat) : Int) ≤ B2098 := by
    rw [val_mm]
    have h1 := mM_lt x
    exact cast_le (mM x) 53 (mE x) 2045 2098 (by omega) (mE_le x h) rfl
  have h0 : (0 : Int) ≤ B2098 := Int.le_trans (Int.natCast_nonneg _) hv
  unfold un
  split <;> omega
theorem acc_bound (l : List Nat) : ∀ s : AS, s.z - l.length * B2098 ≤ (l.foldl addS s).z ∧ (l.foldl addS s).z ≤ s.z + l.length * B2098 := by
  induction l with
  | nil => intro s; simp
  | cons x r ih =>
    intro s
    have h0 : (0 : Int) ≤ B2098 := by unfold B2098; exact Int.le_of_lt (Int.pow_pos (by decide))
    have h := ih (addS s x)
    have hz : s.z - B2098 ≤ (addS s x).z ∧ (addS s x).z ≤ s.z + B2098 := by
      unfold addS
      by_cases hf : fin x = true
      · have := un_bound x hf
        simp only [hf, if_true]; omega
      · simp only [hf, if_false, Bool.false_eq_true]; omega
    rw [List.foldl_cons, List.length_cons, Int.natCast_add, Int.add_mul]
    omega
theorem acc_small (l : List Nat) (hl : l.length < 4611686018427387904) : -B2559 < (accS l).z ∧ (accS l).z < B2559 := by
  have h := acc_bound l AS.zero
  have h0 : (0 : Int) < B2098 := by unfold B2098; exact Int.pow_pos (by decide)
  have hb : (4611686018427387904 : Int) * B2098 ≤ B2559 := by
    rw [show (4611686018427387904 : Int) = 2 ^ 62 by rfl]
    exact ipow_le 62 2098 2559 (by decide)
  have hm : (l.length : Int) * B2098 < 4611686018427387904 * B2098 := Int.mul_lt_mul_of_pos_right (by omega) h0
  unfold accS
  have : AS.zero.z = 0 := rfl
  omega

set_option maxRecDepth 100000 in
set_option maxHeartbeats 1000000 in
theorem c23 (b o c : Nat) (l : List Nat) (w : World) (h : FL w b o l) (hl : l.length < 4611686018427387904) :
    Calls Try.prog 23 #[.slice (some ⟨b, o, none⟩) l.length c] w fun e w' => RetF (pV (accS l)) e ∧ Below w.heap.size w w' := by
  have H := Lib.hid h
  have HZ := Lib.hid (acc_small l hl)
  go_enter Try.func23, Try.ntmps23
  go_wp2_with (go_at_call 35; fail)
  refine (c35 _).mono ?_
  rintro e w1 ⟨rfl, ha, hb1, hs1⟩
  have A0 := Lib.hid ha
  have B0 := Lib.hid hb1
  have S0 := Lib.hid hs1
  clear ha hb1 hs1
  go_wp2_with fail
  go_loopw [9] (fun i wx => ∃ k : Nat, k ≤ l.length ∧ i = .int .i64 k ∧ Hid (AccAt wx w.heap.size (accS (l.take k))) ∧ Hid (Below w.heap.size w wx) ∧ Hid (w.heap.size < wx.heap.size)) (fun i _ => l.length - (intOf i).toNat)
  case atStart => exact ⟨0, by omega, rfl, A0, B0, S0⟩
  case round =>
    obtain ⟨k, hk, rfl, hA, hB, hS⟩ := hrel
    by_cases hlt : k < l.length
    · have hki : (k : Int) < (l.length : Int) := by omega
      obtain ⟨x, hx⟩ : ∃ x, l[k]? = some x := ⟨l[k], List.getElem?_eq_getElem hlt⟩
      have HX := Lib.hid hx
      have HLT := Lib.hid hlt
      have HU := Lib.hid (H.out.u k x hx)
      have kc := (H.out.below hB.out).cell k x hx
      clear hx h hlt A0 B0 S0
      go_wp2_with (go_at_call 37; fail)
      refine (c37 _ _ x _ HU.out hA.out hS.out).mono ?_
      rintro e w2 ⟨rfl, ha2, ho2⟩
      have A2 : Hid (AccAt w2 w.heap.size (accS (l.take (k + 1)))) := Lib.hid (by rw [accS_take l k x HX.out]; exact ha2)
      have B2 := Lib.hid (ho2.below (Nat.le_refl _) (Nat.le_of_lt hS.out) hB.out)
      have S2 := Lib.hid (Nat.lt_of_lt_of_le hS.out ho2.size)
      clear ha2 ho2 kc
      go_wp2
      go_roundw
      case rel => exact ⟨k + 1, by have := HLT.out; omega, by go_num, A2, B2, S2⟩
      case measure => have := HLT.out; simp [intOf]; omega
    · have hki : ¬ (k : Int) < (l.length : Int) := by omega
      have hkl : k = l.length := by omega
      have hA2 : Hid (AccAt _ w.heap.size (accS l)) := Lib.hid (by have := hA.out; rw [hkl, List.take_length] at this; exact this)
      clear hlt hkl h A0 B0 S0 hA
      go_wp2_with (go_at_call 39; fail)
      refine (c39 _ _ _ hA2.out hS.out HZ.out.1 HZ.out.2).mono ?_
      rintro e w2 ⟨⟨r, rfl, hr⟩, hb2⟩
      have HB := Lib.hid (hB.out.trans (hb2.mono hB.out.size))
      have HR := Lib.hid hr
      clear hb2 hr
      go_wp2
      go_ret
      exact ⟨⟨r, rfl, HR.out⟩, HB.out⟩
end Go.Proofs.Ytelalledjbeenaa

namespace Go.Proofs.Ytelalledjbeenaa
open Go.RowKit Fl

set_option maxRecDepth 100000 in
theorem c24 (x y : Nat) (w : World) (hx : U x) (hy : U y) : Calls Try.prog 24 #[.float .f64 x, .float .f64 y] w fun e w' => e = .returned (.bool (pl x == pl y)) ∧ w = w' := by
  have h := same_bits hx hy
  have e1 := neq_self x hx
  have e2 := neq_self y hy
  have e3 : ((x : Int) == (y : Int)) = (x == y) := by rw [Bool.eq_iff_iff]; simp; omega
  rw [← h]
  clear h
  cases h1 : (x == y) <;> cases h2 : isN x <;> cases h3 : isN y
  all_goals
    rw [h2] at e1
    rw [h3] at e2
    rw [h1] at e3
    clear h1 h2 h3
    go_enter Try.func24, Try.ntmps24
    go_wp2
    go_ret
    exact ⟨rfl, rfl⟩

set_option maxRecDepth 100000 in
/-- no numbers: nought below -/
theorem c26z (A : Option Addr) (c : Nat) (w : World) : Calls Try.prog 26 #[.slice A 0 c] w fun e w' => e = .returned (.float .f64 9223372036854775808) ∧ w = w' := by
  go_enter Try.func26, Try.ntmps26
  go_wp2_with (first | (go_at_call 131; refine (c131 _).mono ?_; rintro e w' ⟨rfl, rfl⟩))
  go_loop [3, 9] (fun v i => v = .float .f64 9223372036854775808 ∧ i = .int .i64 0) (fun _ i => 1 - (intOf i).toNat)
  case atStart => exact ⟨rfl, rfl⟩
  case round =>
    obtain ⟨rfl, rfl⟩ := hrel
    go_wp2
    go_ret
    exact ⟨rfl, rfl⟩

/-- what is lost in a sum -/
def lostS (x y s : Nat) : AS := addS (addS (addS AS.zero x) y) (ng s)
theorem accS3 (x y z : Nat) : accS [x, y, z] = addS (addS (addS AS.zero x) y) z := rfl
/-- the sum is a number's: what is lost -/
def twoP (x y s : Nat) : Int := pV (lostS x y s)
end Go.Proofs.Ytelalledjbeenaa

namespace Go.Proofs.Ytelalledjbeenaa
open Go.RowKit Fl

/-- the place of what is lost -/
def lossP (x y s : Nat) : Int := if isN s || isI s then 0 else if zk (pV (lostS x y s)) = 0 then 0 else pV (lostS x y s)
def TwoRet (x y : Nat) (e : Ending) : Prop := ∃ s r : Nat, e = .returned (.tuple #[.float .f64 s, .float .f64 r]) ∧ U s ∧ pl s = opP .add (pl x) (pl y) ∧ U r ∧ pl r = lossP x y s
theorem lost_small (x y s : Nat) : -B2559 < (lostS x y s).z ∧ (lostS x y s).z < B2559 := acc_small [x, y, ng s] (by simp)
set_option maxRecDepth 100000 in
set_option maxHeartbeats 1000000 in
theorem c25 (x y : Nat) (w : World) (hx : U x) (hy : U y) : Calls Try.prog 25 #[.float .f64 x, .float .f64 y] w fun e w' => TwoRet x y e ∧ Below w.heap.size w w' := by
  have hf := run_fop (P := Try.prog) .add rfl 24 x y w
  have HP := Lib.hid (pl_fop .add x y w hx hy)
  have HU := Lib.hid (U_fop .add x y w)
  have HX := Lib.hid (And.intro hx hy)
  have B0 := Lib.hid (Bd (Below.refl w.heap.size w) (fopN .add x y))
  have hsz : (w.drewN (fopN .add x y)).heap.size = w.heap.size := rfl
  have HSZ := Lib.hid hsz
  clear hx hy hsz
  generalize fop .add x y w = s at *
  generalize w.drewN (fopN .add x y) = w0 at *
  have hneg : ∀ (b : Nat) (w : World), (Op.unary .neg (.float .f64 b)).run Try.prog w = .ok (.float .f64 (Op.negFloat .f64 b)) w := fun _ _ => rfl
  cases hN : isN s
  · cases hI : isI s
    · have HL := Lib.hid (And.intro hN hI)
      go_enter Try.func25, Try.ntmps25
      go_wp2_with (first | (go_at_call 129; refine (c129 s _ HU.out).mono ?_; rintro e w' ⟨rfl, rfl⟩; rw [hN]) | (go_at_call 130; refine (c130 s _ HU.out).mono ?_; rintro e w' ⟨rfl, rfl⟩; rw [hI]) | (go_at_call 35; fail))
      refine (c35 _).mono ?_
      rintro e w1 ⟨rfl, ha, hb1, hs1⟩
      obtain ⟨A1, B1⟩ := And.intro (Lib.hid ha) (Lib.hid (B0.out.trans (hb1.mono (by rw [HSZ.out]; exact Nat.le_refl _))))
      have S1 := Lib.hid hs1
      have L1 := Lib.hid (show w.heap.size ≤ w0.heap.size by rw [HSZ.out]; exact Nat.le_refl _)
      clear ha hb1 hs1 hN hI hf B0
      generalize w0.heap.size = c at *
      go_wp2_with (go_at_call 37; fail)
      refine (c37 _ _ x _ HX.out.1 A1.out S1.out).mono ?_
      rintro e w2 ⟨rfl, ha, ho⟩
      have A2 := Lib.hid ha
      have B2 := Lib.hid (ho.below L1.out (by have := B1.out.size; exact this) B1.out)
      have S2 := Lib.hid (Nat.lt_of_lt_of_le S1.out ho.size)
      clear ha ho A1 B1 S1
      go_wp2_with (go_at_call 37; fail)
      refine (c37 _ _ y _ HX.out.2 A2.out S2.out).mono ?_
      rintro e w3 ⟨rfl, ha, ho⟩
      have A3 := Lib.hid ha
      have B3 := Lib.hid (ho.below L1.out (by have := B2.out.size; exact this) B2.out)
      have S3 := Lib.hid (Nat.lt_of_lt_of_le S2.out ho.size)
      clear ha ho A2 B2 S2
      go_wp2_with (go_at_call 37; fail)
      refine (c37 _ _ (ng s) _ (U_ng HU.out) A3.out S3.out).mono ?_
      rintro e w4 ⟨rfl, ha, ho⟩
      have A4 : Hid (AccAt w4 c (lostS x y s)) := Lib.hid ha
      have B4 := Lib.hid (ho.below L1.out (by have := B3.out.size; exact this) B3.out)
      have S4 := Lib.hid (Nat.lt_of_lt_of_le S3.out ho.size)
      clear ha ho A3 B3 S3
      go_wp2_with (go_at_call 39; fail)
      refine (c39 _ _ _ A4.out S4.out (lost_small x y s).1 (lost_small x y s).2).mono ?_
      rintro e w5 ⟨⟨r, rfl, hu, hr⟩, hb⟩
      have B5 := Lib.hid (B4.out.trans (hb.mono B4.out.size))
      have HR := Lib.hid hr
      have HUR := Lib.hid hu
      have e0 := f_eq r 0 hu (by unfold U; decide)
      rw [hr, show pl 0 = 0 by decide] at e0
      clear hb A4 B4 S4 hu hr
      have hl : Hid (lossP x y s = if zk (pV (lostS x y s)) = 0 then 0 else pV (lostS x y s)) := Lib.hid (by unfold lossP; rw [HL.out.1, HL.out.2, Bool.or_false, if_neg Bool.false_ne_true])
      generalize pV (lostS x y s) = P at *
      cases hz : feqP P 0
      · rw [hz] at e0
        have E : Hid (pl r = lossP x y s) := Lib.hid (by
          rw [hl.out, HR.out]
          unfold feqP at hz
          by_cases h0 : zk P = 0
          · rw [if_pos h0]
            rw [decide_eq_true (show (0 : Int) ≠ 9223372036854775807 by decide), decide_eq_true (show zk P = zk 0 by rw [h0]; rfl)] at hz
            have hP : P = 9223372036854775807 := by simpa using hz
            rw [hP] at h0; exact absurd h0 (by decide)
          · rw [if_neg h0])
        clear hz
        go_wp2
        go_ret2
        exact ⟨⟨s, r, rfl, HU.out, HP.out, HUR.out, E.out⟩, B5.out⟩
      · rw [hz] at e0
        have E : Hid (pl 0 = lossP x y s) := Lib.hid (by
          rw [hl.out]
          unfold feqP at hz
          have h0 : zk P = 0 := by
            simp only [Bool.and_eq_true, decide_eq_true_eq] at hz
            rw [hz.2]; rfl
          rw [if_pos h0]; decide)
        clear hz
        go_wp2
        go_ret2
        exact ⟨⟨s, 0, rfl, HU.out, HP.out, by unfold U; decide, E.out⟩, B5.out⟩
    · have E : Hid (pl 0 = lossP x y s) := Lib.hid (by unfold lossP; rw [hN, hI, Bool.false_or, if_pos rfl]; decide)
      go_enter Try.func25, Try.ntmps25
      go_wp2_with (first | (go_at_call 129; refine (c129 s _ HU.out).mono ?_; rintro e w' ⟨rfl, rfl⟩; rw [hN]) | (go_at_call 130; refine (c130 s _ HU.out).mono ?_; rintro e w' ⟨rfl, rfl⟩; rw [hI]) | (go_at_call 35; fail))
      go_ret2
      exact ⟨⟨s, 0, rfl, HU.out, HP.out, by unfold U; decide, E.out⟩, B0.out⟩
  · have E : Hid (pl 0 = lossP x y s) := Lib.hid (by unfold lossP; rw [hN, Bool.true_or, if_pos rfl]; decide)
    go_enter Try.func25, Try.ntmps25
    go_wp2_with (first | (go_at_call 129; refine (c129 s _ HU.out).mono ?_; rintro e w' ⟨rfl, rfl⟩; rw [hN]) | (go_at_call 35; fail))
    go_ret2
    exact ⟨⟨s, 0, rfl, HU.out, HP.out, by unfold U; decide, E.out⟩, B0.out⟩
end Go.Proofs.Ytelalledjbeenaa

namespace Go.Proofs.Ytelalledjbeenaa
open Go.RowKit Fl

set_option maxRecDepth 100000 in
set_option maxHeartbeats 1000000 in
theorem c23z (A : Option Addr) (c : Nat) (w : World) : Calls Try.prog 23 #[.slice A 0 c] w fun e w' => RetF (pV (accS [])) e ∧ Below w.heap.size w w' := by
  have HZ := Lib.hid (acc_small [] (by simp))
  go_enter Try.func23, Try.ntmps23
  go_wp2_with (go_at_call 35; fail)
  refine (c35 _).mono ?_
  rintro e w1 ⟨rfl, ha, hb1, hs1⟩
  have A0 : Hid (AccAt w1 w.heap.size (accS [])) := Lib.hid ha
  have B0 := Lib.hid hb1
  have S0 := Lib.hid hs1
  clear ha hb1 hs1
  go_wp2_with fail
  go_loopw [9] (fun i wx => i = .int .i64 0 ∧ Hid (AccAt wx w.heap.size (accS [])) ∧ Hid (Below w.heap.size w wx) ∧ Hid (w.heap.size < wx.heap.size)) (fun i _ => 1 - (intOf i).toNat)
  case atStart => exact ⟨rfl, A0, B0, S0⟩
  case round =>
    obtain ⟨rfl, hA, hB, hS⟩ := hrel
    clear A0 B0 S0
    go_wp2_with (go_at_call 39; fail)
    refine (c39 _ _ _ hA.out hS.out HZ.out.1 HZ.out.2).mono ?_
    rintro e w2 ⟨⟨r, rfl, hr⟩, hb2⟩
    have HB := Lib.hid (hB.out.trans (hb2.mono hB.out.size))
    have HR := Lib.hid hr
    clear hb2 hr
    go_wp2
    go_ret
    exact ⟨⟨r, rfl, HR.out⟩, HB.out⟩
end Go.Proofs.Ytelalledjbeenaa

namespace Go.Proofs.Ytelalledjbeenaa
open Go.RowKit Fl

/-- the place without its sign -/
def absP (p : Int) : Int := if p = 9223372036854775807 then p else if p < 0 then -p - 1 else p
theorem pl_rg (x : Nat) : pl (rg x) = absP (pl x) := by
  have h1 := rg_rg x
  have h2 := sg_rg x
  by_cases hn : isN x = true
  · have : isN (rg x) = true := by unfold isN at *; rw [h1]; exact hn
    rw [pl_nan hn, pl_nan this]; rfl
  · have hn := Bool.eq_false_iff.2 hn
    have h3 : isN (rg x) = false := by unfold isN at *; rw [h1]; exact hn
    rw [pl_pos h3 h2, h1]
    have hr : (rg x : Int) ≤ 9218868437227405312 := by unfold isN INF at hn; have := of_decide_eq_false hn; omega
    cases hs : sg x
    · rw [pl_pos hn hs]; unfold absP; rw [if_neg (by omega), if_neg (by omega)]
    · rw [pl_neg hn hs]; unfold absP; rw [if_neg (by omega), if_pos (by omega)]; omega
/-- a step of Held: sum and rest -/
def heldT (s x : Int) : Int := opP .add s x
def heldC (s c x : Int) : Int :=
  if fleP (absP x) (absP s) then opP .add c (opP .add (opP .sub s (heldT s x)) x) else opP .add c (opP .add (opP .sub x (heldT s x)) s)

set_option maxRecDepth 100000 in
set_option maxHeartbeats 1000000 in
theorem c132 (p q s c x : Nat) (w : World) (hx : U x) (hs : U s) (hc : U c) (hpq : p ≠ q)
    (k1 : w.cell? ⟨p, 0, none⟩ = some (.float .f64 s)) (k2 : w.cell? ⟨q, 0, none⟩ = some (.float .f64 c)) (f1 : w.frozen? ⟨p, 0, none⟩ = false) (f2 : w.frozen? ⟨q, 0, none⟩ = false) :
    Calls Try.prog 132 #[.float .f64 x, .pointer (some ⟨p, 0, none⟩), .pointer (some ⟨q, 0, none⟩)] w fun e w' => e = .returned (.tuple #[]) ∧
      ∃ s' c' n, U s' ∧ U c' ∧ pl s' = heldT (pl s) (pl x) ∧ pl c' = heldC (pl s) (pl c) (pl x) ∧ w' = (((w.drewN n).setCell ⟨q, 0, none⟩ (.float .f64 c')).setCell ⟨p, 0, none⟩ (.float .f64 s')) := by
  have hf := fun x y w => run_fop (P := Try.prog) .add rfl 24 x y w
  have hg := fun x y w => run_fop (P := Try.prog) .sub rfl 24 x y w
  have H := Lib.hid (And.intro hx (And.intro hs hc))
  have e1 := f_ge (rg s) (rg x) (U_rg s) (U_rg x)
  rw [pl_rg, pl_rg] at e1
  have f1' : ∀ n, (w.drewN n).frozen? ⟨p, 0, none⟩ = false := fun _ => f1
  have f2' : ∀ n, (w.drewN n).frozen? ⟨q, 0, none⟩ = false := fun _ => f2
  have k1' : ∀ n, (w.drewN n).cell? ⟨p, 0, none⟩ = some (.float .f64 s) := fun _ => k1
  have k2' : ∀ n, (w.drewN n).cell? ⟨q, 0, none⟩ = some (.float .f64 c) := fun _ => k2
  have st2 : ∀ (v n : Nat), (store ⟨q, 0, none⟩ (.float .f64 v)).run Try.prog (w.drewN n) = .ok () ((w.drewN n).setCell ⟨q, 0, none⟩ (.float .f64 v)) := fun v n => by
    rw [run_store Try.prog _ _ _ _ rfl, k2' n, f2' n]; rfl
  have st1 : ∀ (v n u : Nat), (store ⟨p, 0, none⟩ (.float .f64 v)).run Try.prog ((w.drewN n).setCell ⟨q, 0, none⟩ (.float .f64 u)) = .ok () (((w.drewN n).setCell ⟨q, 0, none⟩ (.float .f64 u)).setCell ⟨p, 0, none⟩ (.float .f64 v)) := fun v n u => by
    rw [run_store Try.prog _ _ _ _ rfl, World.cell?_setCell_other _ _ _ _ (by intro h; cases h; exact hpq rfl), World.frozen?_setCell, k1' n, f1' n]; rfl
  clear hx hs hc
  cases hcmp : fleP (absP (pl x)) (absP (pl s))
  · rw [hcmp] at e1
    go_enter Try.func132, Try.ntmps132
    go_wp2_with (go_at_call 133; first | (refine (c133 s _ H.out.2.1).mono ?_; rintro e w' ⟨rfl, rfl⟩) | (refine (c133 x _ H.out.1).mono ?_; rintro e w' ⟨rfl, rfl⟩))
    refine bodyPost_end (v := .tuple #[]) (results_none rfl _ _ _) rfl ⟨rfl, _, _, _, U_fop _ _ _ _, U_fop _ _ _ _, ?_, ?_, rfl⟩
    · rw [pl_fop .add s x _ H.out.2.1 H.out.1]; rfl
    · rw [pl_fop .add c _ _ H.out.2.2 (U_fop _ _ _ _), pl_fop .add _ _ _ (U_fop _ _ _ _) H.out.2.1, pl_fop .sub _ _ _ H.out.1 (U_fop _ _ _ _), pl_fop .add s x _ H.out.2.1 H.out.1]
      unfold heldC heldT
      rw [hcmp]; rfl
  · rw [hcmp] at e1
    go_enter Try.func132, Try.ntmps132
    go_wp2_with (go_at_call 133; first | (refine (c133 s _ H.out.2.1).mono ?_; rintro e w' ⟨rfl, rfl⟩) | (refine (c133 x _ H.out.1).mono ?_; rintro e w' ⟨rfl, rfl⟩))
    refine bodyPost_end (v := .tuple #[]) (results_none rfl _ _ _) rfl ⟨rfl, _, _, _, U_fop _ _ _ _, U_fop _ _ _ _, ?_, ?_, rfl⟩
    · rw [pl_fop .add s x _ H.out.2.1 H.out.1]; rfl
    · rw [pl_fop .add c _ _ H.out.2.2 (U_fop _ _ _ _), pl_fop .add _ _ _ (U_fop _ _ _ _) H.out.1, pl_fop .sub _ _ _ H.out.2.1 (U_fop _ _ _ _), pl_fop .add s x _ H.out.2.1 H.out.1]
      unfold heldC heldT
      rw [hcmp]; rfl
end Go.Proofs.Ytelalledjbeenaa

namespace Go.Proofs.Ytelalledjbeenaa
open Go.RowKit Fl

def heldStep (a : Int × Int) (x : Nat) : Int × Int := (heldT a.1 (pl x), heldC a.1 a.2 (pl x))
def heldF (l : List Nat) : Int × Int := l.foldl heldStep (-1, 0)
/-- the place of Held's sum: an infinity, no number or nothing lost: as it is -/
def heldP (l : List Nat) : Int :=
  let a := heldF l
  if a.1 = 9223372036854775807 ∨ absP a.1 = 9218868437227405312 ∨ feqP a.2 0 = true then a.1 else opP .add a.1 a.2
theorem heldF_take (l : List Nat) (k x : Nat) (h : l[k]? = some x) : heldF (l.take (k + 1)) = heldStep (heldF (l.take k)) x := by
  unfold heldF
  rw [List.take_add_one, h, List.foldl_append]; rfl
end Go.Proofs.Ytelalledjbeenaa

namespace Go.Proofs.Ytelalledjbeenaa
open Go.RowKit Fl

/-- Held's two variables lie in blocks b and b + 1 -/
structure HeldAt (w : World) (b : Nat) (s c : Nat) : Prop where
  k1 : w.cell? ⟨b, 0, none⟩ = some (.float .f64 s)
  k2 : w.cell? ⟨b + 1, 0, none⟩ = some (.float .f64 c)
  f1 : w.frozen? ⟨b, 0, none⟩ = false
  f2 : w.frozen? ⟨b + 1, 0, none⟩ = false
theorem HeldAt.step {w : World} {b s c : Nat} (h : HeldAt w b s c) (n s' c' : Nat) :
    HeldAt (((w.drewN n).setCell ⟨b + 1, 0, none⟩ (.float .f64 c')).setCell ⟨b, 0, none⟩ (.float .f64 s')) b s' c' := by
  have hne : (⟨b, 0, none⟩ : Addr) ≠ ⟨b + 1, 0, none⟩ := by intro h; injection h with h; omega
  have k1 : (w.drewN n).cell? ⟨b, 0, none⟩ = some (.float .f64 s) := h.k1
  have k2 : (w.drewN n).cell? ⟨b + 1, 0, none⟩ = some (.float .f64 c) := h.k2
  have m1 : ((w.drewN n).setCell ⟨b + 1, 0, none⟩ (.float .f64 c')).cell? ⟨b, 0, none⟩ = some (.float .f64 s) := (World.cell?_setCell_other _ _ _ _ (fun e => hne (by injection e with e; first | exact absurd e (by omega) | (subst_vars; omega)))).trans k1
  refine ⟨World.cell?_setCell_same _ _ _ m1, ?_, ?_, ?_⟩
  · exact (World.cell?_setCell_other _ _ _ _ (fun e => by injection e with e; omega)).trans (World.cell?_setCell_same _ _ _ k2)
  · exact (World.frozen?_setCell ..).trans ((World.frozen?_setCell ..).trans h.f1)
  · exact (World.frozen?_setCell ..).trans ((World.frozen?_setCell ..).trans h.f2)
theorem held_below {w0 w : World} {b : Nat} (h : Below b w0 w) (n s' c' : Nat) : Below b w0 (((w.drewN n).setCell ⟨b + 1, 0, none⟩ (.float .f64 c')).setCell ⟨b, 0, none⟩ (.float .f64 s')) :=
  ((Bd h n).setCell (by simp) _).setCell (by simp) _
theorem isI_abs (x : Nat) (hn : isN x = false) : (absP (pl x) = 9218868437227405312) ↔ isI x = true := by
  rw [← pl_rg]
  have h2 : isN (rg x) = false := by unfold isN at *; rw [rg_rg]; exact hn
  rw [pl_pos h2 (sg_rg x), rg_rg]
  unfold isI
  rw [decide_eq_true_eq]; omega
theorem heldP_eq (l : List Nat) (s t : Nat) (h : (pl s, pl t) = heldF l) : heldP l = if isI s || isN s || feqP (pl t) 0 then pl s else opP .add (pl s) (pl t) := by
  unfold heldP
  rw [← h]
  simp only
  have hr := isN_iff_pl s
  by_cases hn : isN s = true
  · rw [hn, if_pos (.inl (of_decide_eq_true (by rw [← hr]; exact hn)))]
    simp
  · have hn := Bool.eq_false_iff.2 hn
    have h1 := isI_abs s hn
    rw [hn] at hr
    have h2 := of_decide_eq_false hr.symm
    rw [hn, Bool.or_false]
    by_cases c : isI s = true
    · rw [if_pos (.inr (.inl (h1.2 c))), c]; simp
    · have h3 : ¬ absP (pl s) = 9218868437227405312 := fun e => c (h1.1 e)
      rw [Bool.eq_false_iff.2 c, Bool.false_or]
      by_cases d : feqP (pl t) 0 = true
      · rw [if_pos (.inr (.inr d)), if_pos d]
      · rw [if_neg, if_neg d]
        rintro (e | e | e)
        · exact h2 e
        · exact h3 e
        · exact d e

theorem held_start (w : World) : HeldAt ((w.alloc (.cells #[.float .f64 9223372036854775808] 24)).alloc (.cells #[.float .f64 0] 24)) w.heap.size 9223372036854775808 0 := by
  have hs : (w.alloc (.cells #[.float .f64 9223372036854775808] 24)).heap.size = w.heap.size + 1 := by simp
  have hb := (Below.refl (w.alloc (.cells #[.float .f64 9223372036854775808] 24)).heap.size (w.alloc (.cells #[.float .f64 9223372036854775808] 24))).alloc (Nat.le_refl _) (.cells #[.float .f64 0] 24)
  refine ⟨(hb.cell (p := ⟨w.heap.size, 0, none⟩) (by simp)).trans ((World.cell?_alloc_new w #[.float .f64 9223372036854775808] 24 0).trans rfl), ?_, (hb.frozen (p := ⟨w.heap.size, 0, none⟩) (by simp)).trans (by simp [go_sem]), ?_⟩
  · rw [← hs]; exact (World.cell?_alloc_new (w.alloc (.cells #[.float .f64 9223372036854775808] 24)) #[.float .f64 0] 24 0).trans rfl
  · rw [← hs]; simp [go_sem]
set_option maxRecDepth 100000 in
set_option maxHeartbeats 1000000 in
theorem c27 (b o c : Nat) (l : List Nat) (w : World) (h : FL w b o l) (hl : l.length < 4611686018427387904) :
    Calls Try.prog 27 #[.slice (some ⟨b, o, none⟩) l.length c] w fun e w' => RetF (heldP l) e ∧ Below w.heap.size w w' := by
  have H := Lib.hid h
  have st1 : ∀ v : Nat, (store ⟨w.heap.size, 0, none⟩ (.float .f64 v)).run Try.prog ((w.alloc (.cells #[.float .f64 0] 24)).alloc (.cells #[.float .f64 0] 24)) = .ok () (((w.alloc (.cells #[.float .f64 0] 24)).alloc (.cells #[.float .f64 0] 24)).setCell ⟨w.heap.size, 0, none⟩ (.float .f64 v)) := fun v => by
    have hb := (Below.refl (w.alloc (.cells #[.float .f64 0] 24)).heap.size (w.alloc (.cells #[.float .f64 0] 24))).alloc (Nat.le_refl _) (.cells #[.float .f64 0] 24)
    have k : ((w.alloc (.cells #[.float .f64 0] 24)).alloc (.cells #[.float .f64 0] 24)).cell? ⟨w.heap.size, 0, none⟩ = some (.float .f64 0) := (hb.cell (p := ⟨w.heap.size, 0, none⟩) (by simp)).trans ((World.cell?_alloc_new w #[.float .f64 0] 24 0).trans rfl)
    have f : ((w.alloc (.cells #[.float .f64 0] 24)).alloc (.cells #[.float .f64 0] 24)).frozen? ⟨w.heap.size, 0, none⟩ = false := (hb.frozen (p := ⟨w.heap.size, 0, none⟩) (by simp)).trans (by simp [go_sem])
    rw [run_store Try.prog _ _ _ _ rfl, k, f]; rfl
  have st2 : (store ⟨w.heap.size + 1, 0, none⟩ (.float .f64 0)).run Try.prog ((w.alloc (.cells #[.float .f64 9223372036854775808] 24)).alloc (.cells #[.float .f64 0] 24)) = .ok () (((w.alloc (.cells #[.float .f64 9223372036854775808] 24)).alloc (.cells #[.float .f64 0] 24)).setCell ⟨w.heap.size + 1, 0, none⟩ (.float .f64 0)) := by
    have hs : (w.alloc (.cells #[.float .f64 9223372036854775808] 24)).heap.size = w.heap.size + 1 := by simp
    have k : ((w.alloc (.cells #[.float .f64 9223372036854775808] 24)).alloc (.cells #[.float .f64 0] 24)).cell? ⟨w.heap.size + 1, 0, none⟩ = some (.float .f64 0) := by
      rw [← hs]; exact (World.cell?_alloc_new (w.alloc (.cells #[.float .f64 9223372036854775808] 24)) #[.float .f64 0] 24 0).trans rfl
    have f : ((w.alloc (.cells #[.float .f64 9223372036854775808] 24)).alloc (.cells #[.float .f64 0] 24)).frozen? ⟨w.heap.size + 1, 0, none⟩ = false := by
      rw [← hs]; simp [go_sem]
    rw [run_store Try.prog _ _ _ _ rfl, k, f]; rfl
  go_enter Try.func27, Try.ntmps27
  go_wp2_with (first | (go_at_call 131; refine (c131 _).mono ?_; rintro e w' ⟨rfl, rfl⟩))
  go_loopw [12] (fun i wx => ∃ (k s t : Nat), k ≤ l.length ∧ i = .int .i64 k ∧ Hid (U s ∧ U t ∧ (pl s, pl t) = heldF (l.take k)) ∧ Hid (HeldAt wx w.heap.size s t) ∧ Hid (Below w.heap.size w wx)) (fun i _ => l.length - (intOf i).toNat)
  case atStart =>
    refine ⟨0, 9223372036854775808, 0, by omega, rfl, Lib.hid ⟨by unfold U; decide, by unfold U; decide, ?_⟩, Lib.hid (held_start w), Lib.hid (((Below.refl _ _).alloc (Nat.le_refl _) _).alloc (by simp) _)⟩
    rw [List.take_zero]; rfl
  case round =>
    obtain ⟨k, s, t, hk, rfl, hP, hC, hB⟩ := hrel
    by_cases hlt : k < l.length
    · have hki : (k : Int) < (l.length : Int) := by omega
      obtain ⟨x, hx⟩ : ∃ x, l[k]? = some x := ⟨l[k], List.getElem?_eq_getElem hlt⟩
      have HX := Lib.hid hx
      have HLT := Lib.hid hlt
      have kc := (H.out.below hB.out).cell k x hx
      clear hx h hlt st1 st2
      go_wp2_with (go_at_call 132; fail)
      refine (c132 w.heap.size (w.heap.size + 1) s t x _ (H.out.u k x HX.out) hP.out.1 hP.out.2.1 (by omega) hC.out.k1 hC.out.k2 hC.out.f1 hC.out.f2).mono ?_
      rintro e w2 ⟨rfl, s', t', n, hs', ht', es, et, hw2⟩
      have P2 : Hid (U s' ∧ U t' ∧ (pl s', pl t') = heldF (l.take (k + 1))) := Lib.hid ⟨hs', ht', by rw [heldF_take l k x HX.out, ← hP.out.2.2, es, et]; rfl⟩
      have C2 : Hid (HeldAt w2 w.heap.size s' t') := Lib.hid (by rw [hw2]; exact hC.out.step n s' t')
      have B2 : Hid (Below w.heap.size w w2) := Lib.hid (by rw [hw2]; exact held_below hB.out n s' t')
      clear hs' ht' es et hw2 kc
      go_wp2
      go_roundw
      case rel => exact ⟨k + 1, s', t', by have := HLT.out; omega, by go_num, P2, C2, B2⟩
      case measure => have := HLT.out; simp [intOf]; omega
    · have hki : ¬ (k : Int) < (l.length : Int) := by omega
      have hkl : k = l.length := by omega
      have HP := Lib.hid (heldP_eq l s t (by have := hP.out.2.2; rwa [hkl, List.take_length] at this))
      have HU := Lib.hid (And.intro hP.out.1 hP.out.2.1)
      have k1 := hC.out.k1
      have k2 := hC.out.k2
      have e0 := f_eq t 0 hP.out.2.1 (by unfold U; decide)
      rw [show pl 0 = 0 by decide] at e0
      have hf := fun w => run_fop (P := Try.prog) .add rfl 24 s t w
      clear hlt hkl h hP st1 st2
      have hA := fun wx => c130 s wx HU.out.1
      have hN := fun wx => c129 s wx HU.out.1
      have F1 : Hid (∀ z, pl s = z → RetF z (.returned (.float .f64 s))) := Lib.hid fun z hz => ⟨s, rfl, HU.out.1, hz⟩
      have F2 : Hid (∀ wx z, opP .add (pl s) (pl t) = z → RetF z (.returned (.float .f64 (fop .add s t wx)))) := Lib.hid fun wx z hz => ⟨_, rfl, U_fop _ _ _ _, by rw [pl_fop .add s t wx HU.out.1 HU.out.2]; exact hz⟩
      have B2 := Lib.hid (Bd hB.out (fopN .add s t))
      have HA := Lib.hid hA
      have HN := Lib.hid hN
      clear hA hN
      cases hi : isI s
      · cases hn : isN s
        · cases hz : feqP (pl t) 0
          · rw [hz] at e0
            have HI := Lib.hid (And.intro hi (And.intro hn hz))
            clear hi hn hz
            go_wp2_with (first | (go_at_call 130; refine (HA.out _).mono ?_; rintro e w' ⟨rfl, rfl⟩; rw [HI.out.1]) | (go_at_call 129; refine (HN.out _).mono ?_; rintro e w' ⟨rfl, rfl⟩; rw [HI.out.2.1]))
            go_ret
            exact ⟨F2.out _ _ (by rw [HP.out, HI.out.1, HI.out.2.1, HI.out.2.2]; rfl), B2.out⟩
          · rw [hz] at e0
            have HI := Lib.hid (And.intro hi (And.intro hn hz))
            clear hi hn hz
            go_wp2_with (first | (go_at_call 130; refine (HA.out _).mono ?_; rintro e w' ⟨rfl, rfl⟩; rw [HI.out.1]) | (go_at_call 129; refine (HN.out _).mono ?_; rintro e w' ⟨rfl, rfl⟩; rw [HI.out.2.1]))
            go_ret
            exact ⟨F1.out _ (by rw [HP.out, HI.out.1, HI.out.2.1, HI.out.2.2]; rfl), hB.out⟩
        · have HI := Lib.hid (And.intro hi hn)
          clear hi hn
          go_wp2_with (first | (go_at_call 130; refine (HA.out _).mono ?_; rintro e w' ⟨rfl, rfl⟩; rw [HI.out.1]) | (go_at_call 129; refine (HN.out _).mono ?_; rintro e w' ⟨rfl, rfl⟩; rw [HI.out.2]))
          go_ret
          exact ⟨F1.out _ (by rw [HP.out, HI.out.1, HI.out.2]; rfl), hB.out⟩
      · have HI := Lib.hid hi
        clear hi
        go_wp2_with (first | (go_at_call 130; refine (HA.out _).mono ?_; rintro e w' ⟨rfl, rfl⟩; rw [HI.out]) | (go_at_call 129; refine (HN.out _).mono ?_; rintro e w' ⟨rfl, rfl⟩))
        go_ret
        exact ⟨F1.out _ (by rw [HP.out, HI.out]; rfl), hB.out⟩
end Go.Proofs.Ytelalledjbeenaa
