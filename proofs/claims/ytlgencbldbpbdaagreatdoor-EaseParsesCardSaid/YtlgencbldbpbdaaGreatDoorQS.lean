/- galleyref03: parts, nearest. -/
import Derived.Test.YtlgencbldbpbdaaGreatDoorQR
import Derived.Test.YtlgencbldbpbdaaGreatDoorMgFl
import Derived.Deep.MidRow
namespace Go.Proofs.YtlgencbldbpbdaaGreatDoor.R
open Go.RowKit Fl
theorem and52 (r : Nat) (h : r < 18446744073709551616) : bits .and .u64 (r : Int) 4503599627370495 = ((r % 4503599627370496 : Nat) : Int) := by
 rw [show (4503599627370495 : Int) = ((4503599627370495 : Nat) : Int) from rfl, u64_and_nat _ _ h (by decide)]
 congr 1
 exact Nat.and_two_pow_sub_one_eq_mod r 52
theorem or52 (F : Nat) (h : F < 4503599627370496) : bits .or .u64 (F : Int) 4503599627370496 = ((4503599627370496 + F : Nat) : Int) := by
 rw [show (4503599627370496 : Int) = ((4503599627370496 : Nat) : Int) from rfl, u64_or_nat _ _ (by omega) (by decide)]
 congr 1
 have := Nat.two_pow_add_eq_or_of_lt (show F < 2 ^ 52 from h) 1
 rw [Nat.mul_one] at this
 rw [Nat.or_comm]
 exact this.symm
set_option maxRecDepth 100000 in
theorem cParts (b : Nat) (w : World) (hb : b < 9223372036854775808) : Calls Tryz.prog 222 #[.int .u64 b] w fun e w' => e = .returned (.tuple #[.int .u64 (pM b : Nat), .int .i64 ((pE b : Int) - 1074)]) ∧ w = w' := by
 have a1 := and52 b (by omega)
 have e52 : (2 : Nat) ^ 52 = 4503599627370496 := by decide
 by_cases h : b < 4503599627370496
 ·have m1 : pM b = b := by unfold pM; rw [e52, if_pos h]
  have m2 : ((pE b : Int) - 1074) = -1074 := by unfold pE; rw [e52, Nat.div_eq_of_lt h]; rfl
  rw [m1, m2]
  have h2 : (b : Int) / 4503599627370496 = 0 := by omega
  have h3 : b % 4503599627370496 = b := Nat.mod_eq_of_lt h
  rw [h3] at a1
  clear hb m1 m2 h h3 e52
  go_enter Tryz.func222, Tryz.ntmps222
  go_wp2
  go_ret2
  exact ⟨rfl, rfl⟩
 ·have m1 : pM b = 4503599627370496 + b % 4503599627370496 := by unfold pM; rw [e52, if_neg h]
  obtain ⟨q, hq⟩ : ∃ q, q = b / 4503599627370496 := ⟨_, rfl⟩
  have q1 : 1 ≤ q := by omega
  have q2 : q ≤ 2047 := by omega
  have m2 : ((pE b : Int) - 1074) = (q : Int) - 1075 := by unfold pE; rw [e52, ← hq]; omega
  rw [m1, m2]
  have h2 : (b : Int) / 4503599627370496 = (q : Int) := by omega
  have h3 : ¬ ((q : Int) = 0) := by omega
  have h4 : (q : Int) ≤ 2047 := by omega
  have o1 := or52 (b % 4503599627370496) (Nat.mod_lt _ (by decide))
  generalize b % 4503599627370496 = f at *
  clear hb m1 m2 h e52 hq q1 q2
  go_enter Tryz.func222, Tryz.ntmps222
  go_wp2
  go_ret2
  exact ⟨rfl, rfl⟩
theorem cmp_scale {x y : Nat} {r : Int} (h : CmpR x y r) {c : Nat} (hc : 0 < c) : CmpR (x * c) (y * c) r :=
 ⟨fun k => h.1 (Nat.lt_of_mul_lt_mul_right k), fun k => h.2.1 (Nat.eq_of_mul_eq_mul_right hc k), fun k => h.2.2 (Nat.lt_of_mul_lt_mul_right k)⟩
theorem cmp_rung {x y m E : Nat} {k : Int} {r : Int} (hk : k = (E : Int) - 1074) (h : CmpR (x * 2 ^ (-k).toNat) (y * m * 2 ^ k.toNat) r) : CmpR (x * 2 ^ K) (m * 2 ^ E * y) r := by
 have eK : K = 1074 := rfl
 rcases Int.lt_or_le k 0 with c | c
 ·have h2 := cmp_scale h (Nat.two_pow_pos E)
  rw [Nat.mul_assoc, Nat.mul_assoc (y * m), ← Nat.pow_add, ← Nat.pow_add, show (-k).toNat + E = K by omega, show k.toNat + E = E by omega] at h2
  rw [show m * 2 ^ E * y = y * m * 2 ^ E by rw [Nat.mul_comm, Nat.mul_assoc]]
  exact h2
 ·have h2 := cmp_scale h (Nat.two_pow_pos K)
  rw [Nat.mul_assoc, Nat.mul_assoc (y * m), ← Nat.pow_add, ← Nat.pow_add, show (-k).toNat + K = K by omega, show k.toNat + K = E by omega] at h2
  rw [show m * 2 ^ E * y = y * m * 2 ^ E by rw [Nat.mul_comm, Nat.mul_assoc]]
  exact h2
theorem cmp_half {x y m E : Nat} {k : Int} {r : Int} (hk : k = (E : Int) - 1075) (h : CmpR (x * 2 ^ (-k).toNat) (y * m * 2 ^ k.toNat) r) : CmpR (2 * (x * 2 ^ K)) (m * 2 ^ E * y) r := by
 have eK : K = 1074 := rfl
 have e2 : 2 * (x * 2 ^ K) = x * 2 ^ (K + 1) := by rw [Nat.pow_succ, Nat.mul_left_comm, Nat.mul_comm 2]
 rw [e2, show m * 2 ^ E * y = y * m * 2 ^ E by rw [Nat.mul_comm, Nat.mul_assoc]]
 rcases Int.lt_or_le k 0 with c | c
 ·have h2 := cmp_scale h (Nat.two_pow_pos E)
  rw [Nat.mul_assoc, Nat.mul_assoc (y * m), ← Nat.pow_add, ← Nat.pow_add, show (-k).toNat + E = K + 1 by omega, show k.toNat + E = E by omega] at h2
  exact h2
 ·have h2 := cmp_scale h (Nat.two_pow_pos (K + 1))
  rw [Nat.mul_assoc, Nat.mul_assoc (y * m), ← Nat.pow_add, ← Nat.pow_add, show (-k).toNat + (K + 1) = K + 1 by omega, show k.toNat + (K + 1) = E by omega] at h2
  exact h2
theorem lt_shift {x n L q : Nat} (h : x < BB ^ L) (hn : n ≤ 32 * q) : x * 2 ^ n < BB ^ (L + q) := by
 rw [Nat.pow_add, BB_pow q]
 exact Nat.mul_lt_mul_of_lt_of_le h (Nat.pow_le_pow_right (by decide) hn) (Nat.two_pow_pos _)
theorem lt_rung {y m n L q : Nat} (h : y < BB ^ L) (hm : m < 18446744073709551616) (hn : n ≤ 32 * q) : y * m * 2 ^ n < BB ^ (L + (2 + q)) := by
 rw [Nat.mul_assoc, Nat.pow_add]
 refine Nat.mul_lt_mul_of_lt_of_le h ?_ (Nat.pow_pos BB_pos)
 rw [Nat.pow_add, BB_pow q]
 refine Nat.mul_le_mul ?_ (Nat.pow_le_pow_right (by decide) hn)
 have : BB ^ 2 = 18446744073709551616 := by decide
 omega
def AgP (w : World) (va vb : Value) (x y : Nat) : Prop := ∀ (wx : World) (m : Nat) (k : Int), Below w.heap.size w wx → m < 18446744073709551616 → -1075 ≤ k → k ≤ 1000 → Calls Tryz.prog 223 #[.agg #[va, vb], .int .u64 m, .int .i64 k] wx fun e w' => (∃ r, e = .returned (.int .i64 r) ∧ CmpR (x * 2 ^ (-k).toNat) (y * m * 2 ^ k.toNat) r) ∧ Below wx.heap.size wx w'
theorem agP {w : World} {va vb : Value} {x y L : Nat} (hva : NV w va x) (hvb : NV w vb y) (hL : L ≤ 9000) (hx : x < BB ^ L) (hy : y < BB ^ L) : AgP w va vb x y := fun wx m k hb hm h1 h2 =>
 cAgainst (L := L + (2 + 34)) (hva.below hb) (hvb.below hb) hm (by omega) (by omega) (by omega) (Nat.lt_of_lt_of_le (lt_shift (q := 34) hx (by omega)) (Nat.pow_le_pow_right BB_pos (by omega))) (lt_rung hy hm (by omega)) (lt_more hy _)
structure NR (w wx : World) (c : Nat) (va vb : Value) : Prop where
 r : wx.rangeAt c 0 [va, vb]
 lc : c < wx.heap.size
 l : Below w.heap.size w wx
theorem NR.below {w wx wy : World} {c : Nat} {va vb : Value} (h : NR w wx c va vb) (k : Below wx.heap.size wx wy) : NR w wy c va vb :=
 ⟨fun j v hj => (k.cell (p := ⟨c, 0 + j, none⟩) h.lc).trans (h.r j v hj), Nat.lt_of_lt_of_le h.lc k.size, h.l.trans (k.mono h.l.size)⟩
theorem size79 (va vb : Value) : (Tryz.prog.info? 235).map (·.size) = some [va, vb].length := by kernel_rfl
set_option maxRecDepth 100000 in
set_option maxHeartbeats 4000000 in
theorem cNearest {w : World} {va vb : Value} {x y : Nat} (hA : AgP w va vb x y) (hy : 0 < y) :
  Calls Tryz.prog 275 #[.agg #[va, vb]] w fun e w' => e = .returned (.int .u64 ((min (rungQ (x * 2 ^ K) y) INF : Nat) : Int)) ∧ Below w.heap.size w w' := by
 have HA := Lib.hid hA
 have HY := Lib.hid hy
 have S79 := Lib.hid (size79 va vb)
 have N0 : Hid (NR w (w.alloc (.cells #[va, vb] 235)) w.heap.size va vb) := Lib.hid ⟨fun j v hj => by
  match j, hj with
  | 0, hj => simp at hj; subst hj; simp [go_sem]
  | 1, hj => simp at hj; subst hj; simp [go_sem], by simp, (Below.refl _ _).alloc (Nat.le_refl _) _⟩
 obtain ⟨R, hR⟩ : ∃ R, R = min (rungQ (x * 2 ^ K) y) INF := ⟨_, rfl⟩
 rw [← hR]
 have HR := Lib.hid hR
 clear hA hy hR
 go_enter Tryz.func275, Tryz.ntmps275
 go_upto_region 1 with fail
 refine wp_gen' (fun wx => Hid (NR w wx w.heap.size va vb)) N0 ?_
 intro w0 hW
 clear N0
 go_wp2_with fail
 go_loopw [3, 4] (fun lo hi wx => ∃ l h : Nat, lo = .int .u64 l ∧ hi = .int .u64 h ∧ Hid (l < h ∧ h ≤ INF ∧ Fl.val 52 l * y ≤ x * 2 ^ K ∧ (x * 2 ^ K < Fl.val 52 h * y ∨ h = INF)) ∧ Hid (NR w wx w.heap.size va vb)) (fun lo hi _ => (intOf hi - intOf lo).toNat)
 case atStart => exact ⟨0, INF, rfl, rfl, Lib.hid ⟨by decide, Nat.le_refl _, by rw [Fl.val_zero, Nat.zero_mul]; exact Nat.zero_le _, .inr rfl⟩, hW⟩
 case round =>
  obtain ⟨l, h, rfl, rfl, hI, hN⟩ := hrel
  clear hW
  have i1 : (l : Int) < (h : Int) := by have := hI.out.1; omega
  have i2 : (h : Int) ≤ 9218868437227405312 := by have := hI.out.2.1; unfold INF at this; omega
  by_cases hlt : l + 1 < h
  ·have i3 : (1 : Int) < (h : Int) - (l : Int) := by omega
   obtain ⟨mid, hmid⟩ : ∃ mid, mid = l + (h - l) / 2 := ⟨_, rfl⟩
   have wm : (l : Int) + ((h : Int) - (l : Int)) / 2 = (mid : Int) := by omega
   have mh : mid < h ∧ l < mid := by omega
   have mI : mid < 9218868437227405312 := by have := hI.out.2.1; unfold INF at this; omega
   have CPt := Lib.hid (fun w => cParts mid w (by omega))
   have bE : pE mid ≤ 2045 := by
    unfold pE
    have e52 : (2 : Nat) ^ 52 = 4503599627370496 := by decide
    rw [e52]; omega
   have bM : pM mid < 18446744073709551616 := Nat.lt_trans (pM_lt mid) (by decide)
   obtain ⟨k1, hk1⟩ : ∃ k1, k1 = (pE mid : Int) - 1074 := ⟨_, rfl⟩
   have CA := Lib.hid (fun wx (hb : Below w.heap.size w wx) => (HA.out wx (pM mid) k1 hb bM (by omega) (by omega)).mono fun e w' ⟨⟨r, he, hr⟩, hw⟩ => (⟨⟨r, he, by have := cmp_rung hk1 hr; rw [← val_parts] at this; exact this⟩, hw⟩ : (∃ r, e = Ending.returned (.int .i64 r) ∧ CmpR (x * 2 ^ K) (Fl.val 52 mid * y) r) ∧ Below wx.heap.size wx w'))
   rw [← hk1] at CPt
   generalize pM mid = m1 at *
   have HM := Lib.hid mh
   clear hmid mh mI bE bM hk1 hlt
   go_wp2_with (first
    | (go_at_call 222; refine (CPt.out _).mono ?_; rintro e w' ⟨rfl, rfl⟩)
    | (refine wpList_load_mid rfl 235 (.tmp 1) rfl w.heap.size 0 rfl [va, vb] _ hN.out.r Tryz.underlying235 rfl S79.out ?_)
    | (go_at_call 223; refine (CA.out _ hN.out.l).mono ?_; rintro e w2 ⟨⟨r, rfl, hr⟩, hb⟩; have HC := Lib.hid hr; have N2 := Lib.hid (hN.out.below hb); clear hr hb))
   ·have hge : 0 ≤ r := by assumption
    have J : Hid (mid < h ∧ h ≤ INF ∧ Fl.val 52 mid * y ≤ x * 2 ^ K ∧ (x * 2 ^ K < Fl.val 52 h * y ∨ h = INF)) := Lib.hid ⟨HM.out.1, hI.out.2.1, by
     rcases Nat.lt_or_ge (x * 2 ^ K) (Fl.val 52 mid * y) with c | c
     ·have := HC.out.1 c; omega
     ·exact c, hI.out.2.2.2⟩
    go_roundw
    case rel => exact ⟨mid, h, rfl, rfl, J, N2⟩
    case measure => have := HM.out; simp [intOf]; omega
   ·have hge : ¬ 0 ≤ r := by first | assumption | omega
    have J : Hid (l < mid ∧ mid ≤ INF ∧ Fl.val 52 l * y ≤ x * 2 ^ K ∧ (x * 2 ^ K < Fl.val 52 mid * y ∨ mid = INF)) := Lib.hid ⟨HM.out.2, by have := HM.out.1; have := hI.out.2.1; omega, hI.out.2.2.1, .inl (by
     rcases Nat.lt_trichotomy (x * 2 ^ K) (Fl.val 52 mid * y) with c | c | c
     ·exact c
     ·have := HC.out.2.1 c; omega
     ·have := HC.out.2.2 c; omega)⟩
    go_roundw
    case rel => exact ⟨l, mid, rfl, rfl, J, N2⟩
    case measure => have := HM.out; simp [intOf]; omega
  ·have i3 : ¬ (1 : Int) < (h : Int) - (l : Int) := by omega
   have hl1 : h = l + 1 := by have := hI.out.1; omega
   have lI : l < INF := by have := hI.out.1; have := hI.out.2.1; omega
   have NL := near_low (x * 2 ^ K) y l HY.out lI hI.out.2.2.1 (by rw [← hl1]; exact hI.out.2.2.2)
   rw [← HR.out] at NL
   have NL := Lib.hid NL
   have mI : l < 9218868437227405312 := lI
   have CPt := Lib.hid (fun w => cParts l w (by omega))
   have bE : pE l ≤ 2045 := by
    unfold pE
    have e52 : (2 : Nat) ^ 52 = 4503599627370496 := by decide
    rw [e52]; omega
   have bM := pM_lt l
   have e53 : (2 : Nat) ^ 53 = 9007199254740992 := by decide
   obtain ⟨k1, hk1⟩ : ∃ k1, k1 = (pE l : Int) - 1074 := ⟨_, rfl⟩
   obtain ⟨m2, hm2⟩ : ∃ m2, m2 = 2 * pM l + 1 := ⟨_, rfl⟩
   have CA := Lib.hid (fun wx (hb : Below w.heap.size w wx) => (HA.out wx m2 (k1 - 1) hb (by omega) (by omega) (by omega)).mono fun e w' ⟨⟨r, he, hr⟩, hw⟩ => (⟨⟨r, he, by have := cmp_half (E := pE l) (by omega) hr; rw [hm2] at this; exact this⟩, hw⟩ : (∃ r, e = Ending.returned (.int .i64 r) ∧ CmpR (2 * (x * 2 ^ K)) ((2 * pM l + 1) * 2 ^ pE l * y) r) ∧ Below wx.heap.size wx w'))
   rw [← hk1] at CPt
   have k2 : -1074 ≤ k1 := by omega
   have k3 : k1 ≤ 971 := by omega
   have w2m : 2 * ((pM l : Nat) : Int) + 1 = (m2 : Int) := by omega
   have bm : ((pM l : Nat) : Int) ≤ 9007199254740992 := by omega
   have li : (l : Int) ≤ 9218868437227405311 := by omega
   have ID := Lib.hid (And.intro hm2 True.intro)
   generalize (2 * pM l + 1) * 2 ^ pE l * y = MY at *
   generalize pM l = m1 at *
   clear hl1 lI mI bE bM e53 hk1 hm2 hlt
   go_upto_region 11 with (first
    | (go_at_call 222; refine (CPt.out _).mono ?_; rintro e w' ⟨rfl, rfl⟩)
    | (refine wpList_load_mid rfl 235 (.tmp 1) rfl w.heap.size 0 rfl [va, vb] _ hN.out.r Tryz.underlying235 rfl S79.out ?_)
    | (go_at_call 223; refine (CA.out _ hN.out.l).mono ?_; rintro e w2 ⟨⟨r, rfl, hr⟩, hb⟩; have HC := Lib.hid hr; have N2 := Lib.hid (hN.out.below hb); clear hr hb))
   clear CPt CA hI hN
   rcases Int.lt_trichotomy r 0 with c | c | c
   ·have c1 : ¬ 0 < r := by omega
    have c2 : ¬ r = 0 := by omega
    have E : Hid (l = R) := Lib.hid (by
     rw [← NL.out, if_neg]; rfl
     rintro (q | q)
     ·have := HC.out.2.2 q; omega
     ·have := HC.out.2.1 q.1.symm; omega)
    clear c
    go_wp2
    go_ret
    exact ⟨ret_int (by have := E.out; omega), N2.out.l⟩
   ·subst c
    rcases Nat.mod_two_eq_zero_or_one l with c | c
    ·have c2 : (l : Int) % 2 = 0 := by omega
     have E : Hid (l = R) := Lib.hid (by
      rw [← NL.out, if_neg]; rfl
      rintro (q | q)
      ·have := HC.out.2.2 q; omega
      ·omega)
     clear c
     go_wp2
     go_ret
     exact ⟨ret_int (by have := E.out; omega), N2.out.l⟩
    ·have c2 : (l : Int) % 2 = 1 := by omega
     have E : Hid (l + 1 = R) := Lib.hid (by
      rw [← NL.out, if_pos]
      right
      refine ⟨?_, c⟩
      rcases Nat.lt_trichotomy (2 * (x * 2 ^ K)) MY with q | q | q
      ·have := HC.out.1 q; omega
      ·exact q.symm
      ·have := HC.out.2.2 q; omega)
     clear c
     go_wp2
     go_ret
     exact ⟨ret_int (by have := E.out; omega), N2.out.l⟩
   ·have E : Hid (l + 1 = R) := Lib.hid (by
     rw [← NL.out, if_pos]
     left
     rcases Nat.lt_trichotomy (2 * (x * 2 ^ K)) MY with q | q | q
     ·have := HC.out.1 q; omega
     ·have := HC.out.2.1 q; omega
     ·exact q)
    go_wp2
    go_ret
    exact ⟨ret_int (by have := E.out; omega), N2.out.l⟩
end Go.Proofs.YtlgencbldbpbdaaGreatDoor.R
