/- large.Ratio. -/
import Derived.Test.YtjkifbkehochoaaGreatDoorMgDhF
import Derived.IntWalk
namespace Go.Proofs.YtjkifbkehochoaaGreatDoor
open Go.RowKit Fl

theorem nv_len {w : World} {v : Value} {r : Nat} (h : NV w v r) : ∃ A n c, v = .slice A n c ∧ decide (0 < n) = decide (r ≠ 0) := by
  obtain ⟨l, nl, hc, rfl⟩ := h
  obtain ⟨A, c, rfl⟩ := nl.form
  refine ⟨A, _, c, rfl, ?_⟩
  congr 1
  refine propext ⟨fun h h0 => ?_, fun h => ?_⟩
  · have := val_zero hc h0
    rw [this] at h; exact absurd h (Nat.lt_irrefl _)
  · rcases Nat.eq_zero_or_pos l.length with h0 | h0
    · rw [List.eq_nil_of_length_eq_zero h0] at h; exact absurd rfl h
    · exact h0
/-- the last call of Ratio -/
theorem near_call {w : World} {v : Value} {q D R : Nat} {e : Int} {m : Bool} (hv : NV w v q) (h0 : 2 ^ 55 ≤ q) (h1 : q < 2 ^ 57) (he : -5000 ≤ e) (he2 : e ≤ 3000) (hD : max ((blen q : Int) - 53) (-1074 - e) = (D : Int) + 1) (hD2 : D ≤ 1500) (hR : R = min (near (bumpN (q / 2 ^ D) (m || decide (q % 2 ^ D ≠ 0))) (e + (D + 1 : Nat))) INF) :
    Calls Tryz.prog 98 #[v, .int .i64 e, .bool m] w fun x w' => x = .returned (.float .f64 R) ∧ Below w.heap.size w w' := by
  rw [hR]
  have hp := Nat.two_pow_pos 55
  exact lNearestM hv (by omega) (Nat.lt_trans h1 (Nat.pow_lt_pow_right (by decide) (show 57 < 64 by decide))) he he2 hD hD2
set_option maxRecDepth 100000 in
set_option maxHeartbeats 2000000 in
theorem lRatio {w : World} {va vb : Value} {a b : Nat} (hva : NV w va a) (hvb : NV w vb b) (ha : 0 < a) (hb : 0 < b) (sa : blen a ≤ 10000) (sb : blen b ≤ 10000) (h1 : blen b ≤ blen a + 1700) (h2 : blen a ≤ blen b + 1700) :
    Calls Tryz.prog 57 #[va, vb] w fun x w' => x = .returned (.float .f64 (min (rungQ (a * 2 ^ K) b) INF)) ∧ Below w.heap.size w w' := by
  obtain ⟨R, hR⟩ : ∃ R, R = min (rungQ (a * 2 ^ K) b) INF := ⟨_, rfl⟩
  rw [← hR]
  have C1 := Lib.hid (c80 hva (by omega))
  have C2 := Lib.hid (c80 hvb (by omega))
  have i1 : (blen a : Int) ≤ 10000 := by omega
  have i2 : (blen b : Int) ≤ 10000 := by omega
  have i3 : (0 : Int) ≤ (blen a : Int) := by omega
  have i4 : (0 : Int) ≤ (blen b : Int) := by omega
  have HV := Lib.hid (And.intro hva hvb)
  have e74 : K = 1074 := rfl
  rw [e74] at hR
  by_cases hs : blen a ≤ blen b + 56
  · obtain ⟨n, hn⟩ : ∃ n, blen b + 56 = blen a + n := ⟨blen b + 56 - blen a, by omega⟩
    have es : 56 - ((blen a : Int) - (blen b : Int)) = (n : Int) := by omega
    have hl : blen (a * 2 ^ n) = blen b + 56 := by rw [blen_mul a n ha]; omega
    obtain ⟨q1, q2⟩ := quo_56 hb hl
    have CL := Lib.hid (c40 (n := n) hva (by omega))
    have CQ := Lib.hid (fun (wx : World) u1 u2 (h1 : NV wx u1 (a * 2 ^ n)) (h2 : NV wx u2 b) => c39 h1 h2 hb (by omega) (by omega))
    have hbq : blen (a * 2 ^ n / b) ≤ 57 := blen_lt _ _ q2
    have hbq2 : 54 ≤ blen (a * 2 ^ n / b) := by
      have := blen_mono q1
      exact Nat.le_trans (by decide) this
    obtain ⟨D, hD⟩ : ∃ D : Nat, max ((blen (a * 2 ^ n / b) : Int) - 53) (-1074 - (-(n : Int))) = (D : Int) + 1 := ⟨(max ((blen (a * 2 ^ n / b) : Int) - 53) (-1074 - (-(n : Int))) - 1).toNat, by omega⟩
    have CN := Lib.hid (fun (wx : World) u (h : NV wx u (a * 2 ^ n / b)) => near_call (D := D) (R := R) (m := decide (a * 2 ^ n % b ≠ 0)) (e := -(n : Int)) h q1 q2 (by omega) (by omega) hD (by omega) (by rw [ratio_up hb q1 hD, hR]))
    have n1 : (n : Int) ≤ 1756 := by omega
    have n0 : (0 : Int) ≤ (n : Int) := by omega
    have d1 : decide (0 ≤ n) = true := decide_eq_true (Nat.zero_le _)
    clear hva hvb ha hb sa sb h1 h2 hs hl hR q1 q2 hbq hbq2 hD hn
    go_enter Tryz.func57, Tryz.ntmps57
    go_wp2_with (first
      | (go_at_call 78; with_reducible refine C1.out.mono ?_; rintro e w' ⟨rfl, rfl⟩)
      | (go_at_call 78; with_reducible refine C2.out.mono ?_; rintro e w' ⟨rfl, rfl⟩)
      | (go_at_call 71; (try rw [es]); refine CL.out.mono ?_; rintro e w2 ⟨hb2, v2, rfl, hv2⟩; have B2 := Lib.hid hb2; have V2 := Lib.hid hv2; have U2 := Lib.hid (HV.out.2.below hb2); clear hb2 hv2)
      | (go_at_call 40; refine (CQ.out _ _ _ V2.out U2.out).mono ?_; rintro e w3 ⟨hb3, u1, u2, rfl, k1, k2⟩; obtain ⟨A, m, c, rfl, hm⟩ := nv_len k2; have HM := Lib.hid hm; have K1 := Lib.hid k1; have B3 := Lib.hid (B2.out.trans (hb3.mono B2.out.size)); clear hb3 k1 k2 hm)
      | (go_at_call 98; rw [HM.out]; refine (CN.out _ _ K1.out).mono ?_; rintro x w4 ⟨rfl, hb4⟩; have B4 := Lib.hid (B3.out.trans (hb4.mono B3.out.size)); clear hb4))
    go_ret
    exact ⟨rfl, B4.out⟩
  · obtain ⟨n, hn⟩ : ∃ n, blen a = blen b + 56 + n := ⟨blen a - blen b - 56, by omega⟩
    have es : 56 - ((blen a : Int) - (blen b : Int)) = -(n : Int) := by omega
    have hb2 : 0 < b * 2 ^ n := Nat.mul_pos hb (Nat.two_pow_pos n)
    have hl : blen a = blen (b * 2 ^ n) + 56 := by rw [blen_mul b n hb]; omega
    obtain ⟨q1, q2⟩ := quo_56 hb2 hl
    have CL := Lib.hid (c40 (n := n) hvb (by omega))
    have CQ := Lib.hid (fun (wx : World) u1 u2 (h1 : NV wx u1 a) (h2 : NV wx u2 (b * 2 ^ n)) => c39 h1 h2 hb2 (by omega) (by omega))
    have hbq : blen (a / (b * 2 ^ n)) ≤ 57 := blen_lt _ _ q2
    have hbq2 : 54 ≤ blen (a / (b * 2 ^ n)) := by
      have := blen_mono q1
      exact Nat.le_trans (by decide) this
    obtain ⟨D, hD⟩ : ∃ D : Nat, max ((blen (a / (b * 2 ^ n)) : Int) - 53) (-1074 - (n : Int)) = (D : Int) + 1 := ⟨(max ((blen (a / (b * 2 ^ n)) : Int) - 53) (-1074 - (n : Int)) - 1).toNat, by omega⟩
    have CN := Lib.hid (fun (wx : World) u (h : NV wx u (a / (b * 2 ^ n))) => near_call (D := D) (R := R) (m := decide (a % (b * 2 ^ n) ≠ 0)) (e := (n : Int)) h q1 q2 (by omega) (by omega) hD (by omega) (by rw [ratio_down hb q1 hD, hR]))
    have n1 : (n : Int) ≤ 1756 := by omega
    have n0 : (1 : Int) ≤ (n : Int) := by omega
    have n2 : IntKind.i64.wrap (- -(n : Int)) = (n : Int) := by rw [Int.neg_neg]; exact IntWalk.i64_in _ (by omega)
    have n3 : ¬ (0 : Int) ≤ -(n : Int) := by omega
    clear hva hvb ha hb sa sb h1 h2 hs hl hR q1 q2 hbq hbq2 hD hn hb2
    go_enter Tryz.func57, Tryz.ntmps57
    go_wp2_with (first
      | (go_at_call 78; with_reducible refine C1.out.mono ?_; rintro e w' ⟨rfl, rfl⟩)
      | (go_at_call 78; with_reducible refine C2.out.mono ?_; rintro e w' ⟨rfl, rfl⟩)
      | (go_at_call 71; (try rw [es]); refine CL.out.mono ?_; rintro e w2 ⟨hb2, v2, rfl, hv2⟩; have B2 := Lib.hid hb2; have V2 := Lib.hid hv2; have U2 := Lib.hid (HV.out.1.below hb2); clear hb2 hv2)
      | (go_at_call 40; refine (CQ.out _ _ _ U2.out V2.out).mono ?_; rintro e w3 ⟨hb3, u1, u2, rfl, k1, k2⟩; obtain ⟨A, m, c, rfl, hm⟩ := nv_len k2; have HM := Lib.hid hm; have K1 := Lib.hid k1; have B3 := Lib.hid (B2.out.trans (hb3.mono B2.out.size)); clear hb3 k1 k2 hm)
      | (go_at_call 98; rw [HM.out]; refine (CN.out _ _ K1.out).mono ?_; rintro x w4 ⟨rfl, hb4⟩; have B4 := Lib.hid (B3.out.trans (hb4.mono B3.out.size)); clear hb4))
    go_ret
    exact ⟨rfl, B4.out⟩
end Go.Proofs.YtjkifbkehochoaaGreatDoor
