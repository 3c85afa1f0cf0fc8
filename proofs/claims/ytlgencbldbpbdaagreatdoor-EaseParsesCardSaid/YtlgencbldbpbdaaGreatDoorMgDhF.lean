/- Right of a number of one word, by any count. Nearest of a number of one word that has more behind it. Ratio, the plain law: cutting the quotient to 56 bits and rounding it once. large.Ratio. -/
import Derived.Test.YtlgencbldbpbdaaGreatDoorLgJ
import Derived.Test.YtlgencbldbpbdaaGreatDoorMgDhE
import Derived.Deep.DeepCutAuto
import Derived.IntWalk
import Derived.Test.YtlgencbldbpbdaaGreatDoorMgFl
namespace Go.Proofs.YtlgencbldbpbdaaGreatDoor
open Go.RowKit Fl
theorem nv_word {w : World} {v : Value} {m : Nat} (h : NV w v m) (h0 : 0 < m) (hm : m < BB) : ∃ b o c, v = .slice (some ⟨b, o, none⟩) 1 c ∧ 1 ≤ c ∧ c ≤ maxLen ∧ NA w b o [m] := by
 obtain ⟨l, ⟨hW, h⟩, hc, rfl⟩ := h
 have hl : l.length = 1 := by
  rcases Nat.lt_or_ge 1 l.length with h1 | h1
  ·have := val_ge hc (by omega)
   have h2 : BB ^ 1 ≤ BB ^ (l.length - 1) := Nat.pow_le_pow_right BB_pos (by omega)
   rw [Nat.pow_one] at h2
   omega
  ·rcases Nat.eq_zero_or_pos l.length with h2 | h2
   ·rw [List.eq_nil_of_length_eq_zero h2] at h0; exact absurd h0 (Nat.lt_irrefl _)
   ·omega
 match l, hl with
 | [m], _ =>
   rcases h with ⟨_, h⟩ | ⟨b, o, c, rfl, h5, h6, h4⟩
   ·cases h
   ·exact ⟨b, o, c, rfl, h5, h6, by simpa [val] using h4⟩
theorem tn_word {x : Nat} (h0 : 0 < x) : [x].take (tn [x] [x].length) = [x] := by
 have h1 : tn [x] 1 = 1 := by
  unfold tn
  simp
  omega
 rw [show [x].length = 1 from rfl, h1]; rfl
set_option maxRecDepth 100000 in
set_option maxHeartbeats 2000000 in
theorem cRightFar {w : World} {v : Value} {x n : Nat} (hv : NV w v x) (h0 : 0 < x) (hx : x < BB) (hn : n ≤ 64000) (hn64 : 64 ≤ n) :
  Calls Tryz.prog 252 #[v, .int .i64 n] w fun e w' => Below w.heap.size w w' ∧ ∃ v', e = .returned (.tuple #[v', .bool true]) ∧ NV w' v' 0 := by
 obtain ⟨b, o, c, rfl, hc1, hcm, hA⟩ := nv_word hv h0 hx
 obtain ⟨q, hq'⟩ : ∃ q, q = n / 64 := ⟨_, rfl⟩
 have hqn : (n : Int) / 64 = (q : Int) := by omega
 have hq1 : 1 ≤ q := by omega
 have hlc : (1 : Int) ≤ (c : Int) := by omega
 have hn2 : (n : Int) ≤ 64000 := by omega
 have hn0 : (0 : Int) ≤ (n : Int) := by omega
 have hq3 : (n : Int) / 64 ≤ 1000 := by omega
 have hq4 : (0 : Int) ≤ (n : Int) / 64 := by omega
 have hcm2 : (c : Int) ≤ 9223372036854775807 := by unfold maxLen at hcm; omega
 have hW : W64 [x] := fun y hy => by rw [List.mem_singleton.1 hy]; exact hx
 have HT : Hid (NL w (.slice (some ⟨b, o, none⟩) 1 1) [x]) := Lib.hid ⟨hW, .inr ⟨b, o, 1, rfl, Nat.le_refl _, by unfold maxLen; omega, hA⟩⟩
 have TW := Lib.hid (tn_word h0)
 have HQ := Lib.hid hqn
 have HQ1 := Lib.hid hq1
 clear hA hW hcm hqn hv hq' hx
 go_enter Tryz.func252, Tryz.ntmps252
 go_upto_region 2 with fail
 have hmin : min ((n : Int) / 64) (1 : Int) = 1 := by have := HQ.out; omega
 rw [hmin]
 clear hmin
 go_upto_region 3 with (go_at_call 253; refine (c82 HT.out).mono ?_; rintro e w' ⟨rfl, v', rfl, hv'⟩; rw [TW.out] at hv'; obtain ⟨A', c', rfl⟩ := hv'.form; clear hv')
 go_cut [8] (fun u wx => ∃ P C, u = .slice P 0 C ∧ wx = w)
 case first =>
  by_cases hc : c = 1
  ·subst hc
   go_wp2_with fail
   go_meet
   exact ⟨_, _, rfl, rfl⟩
  ·have hc2 : ¬ ((c : Int) = 1) := by omega
   go_wp2_with fail
   go_meet
   exact ⟨_, _, rfl, rfl⟩
 case rest =>
  obtain ⟨P, C, rfl, rfl⟩ := hcut
  by_cases hq2 : q = 1
  ·have hqe : ¬ ((1 : Int) < (n : Int) / 64) := by have := HQ.out; omega
   have hmk : ∀ wx : World, (Instr.makeSlice 254 (.int .i64 0) (.int .i64 0)).run Tryz.prog wx = .ok (.slice (some ⟨wx.heap.size, 0, none⟩) 0 0) (wx.alloc (.cells (madeCells #[.int .u64 0] 0) 101)) := fun wx => run_mk 0 0 (by omega) (by omega) wx
   have O0 := Lib.hid (OU.made wc (p := 0) (q := 0) (by omega) (by unfold maxLen; omega) (B := wc.heap.size) (Nat.le_refl _))
   have B0 : Hid (Below wc.heap.size wc (wc.alloc (.cells (madeCells #[.int .u64 0] 0) 101))) := Lib.hid ((Below.refl _ _).alloc (Nat.le_refl _) _)
   clear hq2
   go_upto_region 7 with fail
   have N0 : Hid (NL (wc.alloc (.cells (madeCells #[.int .u64 0] 0) 101)) (.slice (some ⟨wc.heap.size, 0, none⟩) 0 0) []) := Lib.hid (O0.out.nl (fun x hx => (nomatch hx)))
   clear O0 hmk
   generalize wc.alloc (.cells (madeCells #[.int .u64 0] 0) 101) = w1 at *
   generalize (Value.slice (some ⟨wc.heap.size, 0, none⟩) 0 0) = v1 at *
   go_wp2_with fail
   go_loopw [7, 9, 38] (fun bl v i wx => bl = .bool true ∧ v = v1 ∧ i = .int .i64 0 ∧ wx = w1) (fun _ _ _ _ => 0)
   case atStart => exact ⟨rfl, rfl, rfl, rfl⟩
   case round =>
    obtain ⟨rfl, rfl, rfl, rfl⟩ := hrel
    go_wp2_with (go_at_call 253; refine (c82 N0.out).mono ?_; rintro e w2 ⟨rfl, v2, rfl, hv2⟩)
    have R := Lib.hid (show NV wr v2 0 from ⟨_, hv2, .inl rfl, rfl⟩)
    go_ret2
    exact ⟨B0.out, v2, rfl, R.out⟩
  ·have hqe : (1 : Int) < (n : Int) / 64 := by have := HQ.out; have := HQ1.out; omega
   clear hq2
   go_wp2_with fail
   go_ret2
   exact ⟨Below.refl _ _, .slice none 0 0, rfl, nv_nil _⟩
theorem cRight1 {w : World} {v : Value} {x n : Nat} (hv : NV w v x) (h0 : 0 < x) (hx : x < BB) (hn : n ≤ 64000) :
  Calls Tryz.prog 252 #[v, .int .i64 n] w fun e w' => Below w.heap.size w w' ∧ ∃ v', e = .returned (.tuple #[v', .bool (decide (x % 2 ^ n ≠ 0))]) ∧ NV w' v' (x / 2 ^ n) := by
 rcases Nat.lt_or_ge n 64 with h | h
 ·have e0 : n / 64 = 0 := by omega
  refine (c81 (n := n) hv ?_ ?_).mono ?_
  ·have : blen x ≤ 64 := blen_lt _ _ hx
   omega
  ·rw [e0, Nat.mul_zero]; exact blen_pos0 h0
  ·rintro e w' ⟨hb, v', rfl, hv', -⟩
   exact ⟨hb, v', rfl, hv'⟩
 ·have hp : x < 2 ^ n := Nat.lt_of_lt_of_le (show x < 2 ^ 64 from hx) (Nat.pow_le_pow_right (show 0 < 2 by decide) h)
  rw [Nat.div_eq_of_lt hp, Nat.mod_eq_of_lt hp, show decide (x ≠ 0) = true from decide_eq_true (by omega)]
  exact cRightFar hv h0 hx hn h
end Go.Proofs.YtlgencbldbpbdaaGreatDoor
namespace Go.Proofs.YtlgencbldbpbdaaGreatDoor
open Go.RowKit Fl
set_option maxRecDepth 100000 in
set_option maxHeartbeats 2000000 in
theorem lNearestM {w : World} {v : Value} {a D : Nat} {e : Int} {more : Bool} (hv : NV w v a) (h0 : 0 < a) (ha : a < BB) (he : -5000 ≤ e) (he2 : e ≤ 3000) (hD : max ((blen a : Int) - 53) (-1074 - e) = (D : Int) + 1) (hD2 : D ≤ 1500) :
  Calls Tryz.prog 288 #[v, .int .i64 e, .bool more] w fun x w' => x = .returned (.float .f64 (min (near (bumpN (a / 2 ^ D) (more || decide (a % 2 ^ D ≠ 0))) (e + (D + 1 : Nat))) INF)) ∧ Below w.heap.size w w' := by
 have hbl : blen a ≤ 64 := blen_lt a 64 ha
 have C1 := Lib.hid (c80 hv (by omega))
 have i1 : (blen a : Int) ≤ 64 := by omega
 have i3 : (0 : Int) ≤ (blen a : Int) := by omega
 have hdi : (D : Int) ≤ 1500 := by omega
 have ed : (D : Int) + 1 - 1 = (D : Int) := by omega
 have hm1 : a / 2 ^ D < 2 ^ 54 := by
  rw [Nat.div_lt_iff_lt_mul (Nat.two_pow_pos D), ← Nat.pow_add]
  exact Nat.lt_of_lt_of_le (lt_blen a) (Nat.pow_le_pow_right (by decide) (by omega))
 have CR := cRight1 (n := D) hv h0 ha (by omega)
 obtain ⟨b1, hb1⟩ : ∃ b1, b1 = decide (a % 2 ^ D ≠ 0) := ⟨_, rfl⟩
 obtain ⟨m, hm⟩ : ∃ m, m = a / 2 ^ D := ⟨_, rfl⟩
 rw [← hb1, ← hm] at CR ⊢
 rw [← hm] at hm1
 have hm2 : m < 18014398509481984 := hm1
 obtain ⟨b0, hb0⟩ : ∃ b0, b0 = (more || b1) := ⟨_, rfl⟩
 rw [← hb0]
 replace hb0 := Lib.hid hb0
 have CR := Lib.hid CR
 have C2 := Lib.hid (fun (k : Nat) (hk : k ≤ 9007199254740992) w => c177 k (e + (D + 1 : Nat)) w hk (by omega) (by omega))
 have ee : e + ((D : Int) + 1) = e + (D + 1 : Nat) := by push_cast; rfl
 have e3 := u64_low m (by unfold BB; omega)
 have e4 := u64_low (m / 2) (by unfold BB; omega)
 have e4' : bits .and .u64 ((m : Int) / 2) 1 = ((m / 2 % 2 : Nat) : Int) := e4
 clear hv h0 ha hbl hm1 hb1 hm e4
 generalize blen a = bx at *
 go_enter Tryz.func288, Tryz.ntmps288
 go_upto_region 2 with (go_at_call 251; with_reducible refine C1.out.mono ?_; rintro e w' ⟨rfl, rfl⟩)
 go_upto_region 7 with (go_at_call 252; (try rw [ed]); refine CR.out.mono ?_; rintro e w2 ⟨hb2, v2, rfl, hv2⟩; have B2 := Lib.hid hb2; have V2 := Lib.hid hv2; clear hb2 hv2 CR)
 go_cut [2] (fun u wx => u = .bool b0 ∧ wx = w2)
 case first =>
  cases more
  ·have hb := hb0.out
   rw [Bool.false_or] at hb
   go_wp2_with fail
   go_meet
   exact ⟨by rw [hb], rfl⟩
  ·have hb := hb0.out
   rw [Bool.true_or] at hb
   go_wp2_with fail
   go_meet
   exact ⟨by rw [hb], rfl⟩
 case rest =>
  obtain ⟨rfl, rfl⟩ := hcut
  clear hb0
  rcases Nat.eq_zero_or_pos m with hm0 | hm0
  ·subst hm0
   obtain ⟨A, c, rfl⟩ := V2.out.none
   obtain ⟨R, hR⟩ : ∃ R, R = min (near (bumpN 0 b0) (e + (D + 1 : Nat))) INF := ⟨_, rfl⟩
   have C0 : Hid (∀ w, Calls Tryz.prog 245 #[.float .f64 (floatOfInt .f64 0), .int .i64 (e + (D + 1 : Nat))] w fun e w' => e = .returned (.float .f64 R) ∧ w = w') := Lib.hid (fun w => by
    have h := C2.out 0 (Nat.zero_le _) w
    rw [← fi_eq 0] at h
    rw [hR]
    exact h)
   have HR := Lib.hid hR
   clear hR C2
   have q1 : (bits BinOp.and IntKind.u64 0 1 == 1) = false := by decide
   go_wp2_with (go_at_call 245; (try rw [ee]); refine (C0.out _).mono ?_; rintro x w3 ⟨rfl, rfl⟩)
   go_ret
   exact ⟨by rw [← HR.out]; rfl, B2.out⟩
  ·obtain ⟨b, o, c, rfl, hc, kc⟩ := V2.out.one hm0 (by unfold BB; omega)
   have hc2 : (1 : Int) ≤ (c : Int) := by omega
   go_upto_region 13 with fail
   have e7 : floatOfInt .f64 ((m : Int) / 2) = fi (m / 2) := fi_eq (m / 2)
   have e8 : floatOfInt .f64 ((m : Int) / 2 + 1) = fi (m / 2 + 1) := fi_eq (m / 2 + 1)
   by_cases hA : m % 2 = 1
   ·have q1 : ((m : Int) % 2 == 1) = true := by simp; omega
    rw [q1]
    by_cases hB : b0 = true ∨ m / 2 % 2 = 1
    ·have HB : Hid (bumpN m b0 = m / 2 + 1 ∧ m / 2 + 1 ≤ 9007199254740992) := Lib.hid ⟨by unfold bumpN; rw [if_pos ⟨hA, hB⟩], by omega⟩
     cases b0
     ·have q2 : ((m : Int) / 2 % 2 == 1) = true := by have := hB.resolve_left (by decide); simp; omega
      clear hA hB
      go_wp2_with (go_at_call 245; (try rw [ee]); refine (C2.out _ HB.out.2 _).mono ?_; rintro x w3 ⟨rfl, rfl⟩)
      go_ret
      exact ⟨by rw [HB.out.1]; rfl, B2.out⟩
     ·clear hA hB
      go_wp2_with (go_at_call 245; (try rw [ee]); refine (C2.out _ HB.out.2 _).mono ?_; rintro x w3 ⟨rfl, rfl⟩)
      go_ret
      exact ⟨by rw [HB.out.1]; rfl, B2.out⟩
    ·have HB : Hid (bumpN m b0 = m / 2 ∧ m / 2 ≤ 9007199254740992) := Lib.hid ⟨by unfold bumpN; rw [if_neg (fun h => hB h.2)]; rfl, by omega⟩
     have hb0 : b0 = false := by cases b0; rfl; exact absurd (.inl rfl) hB
     subst hb0
     have q2 : ((m : Int) / 2 % 2 == 1) = false := by have : ¬ m / 2 % 2 = 1 := fun h => hB (.inr h); simp; omega
     clear hA hB
     go_wp2_with (go_at_call 245; (try rw [ee]); refine (C2.out _ HB.out.2 _).mono ?_; rintro x w3 ⟨rfl, rfl⟩)
     go_ret
     exact ⟨by rw [HB.out.1]; rfl, B2.out⟩
   ·have q1 : ((m : Int) % 2 == 1) = false := by simp; omega
    rw [q1]
    have HB : Hid (bumpN m b0 = m / 2 ∧ m / 2 ≤ 9007199254740992) := Lib.hid ⟨by unfold bumpN; rw [if_neg (fun h => hA h.1)]; rfl, by omega⟩
    clear hA
    go_wp2_with (go_at_call 245; (try rw [ee]); refine (C2.out _ HB.out.2 _).mono ?_; rintro x w3 ⟨rfl, rfl⟩)
    go_ret
    exact ⟨by rw [HB.out.1]; rfl, B2.out⟩
end Go.Proofs.YtlgencbldbpbdaaGreatDoor
namespace Go.Proofs.YtlgencbldbpbdaaGreatDoor
open Fl
theorem near_em (m E : Nat) (h1 : m ≤ 2 ^ 53) (h2 : E = 0 ∨ 2 ^ 52 ≤ m) : near m ((E : Int) - 1074) = E * 2 ^ 52 + m := by
 unfold near
 rw [show ((E : Int) - 1074 + 1074).toNat = E by omega, show (-1074 - ((E : Int) - 1074)).toNat = 0 by omega, ← val_em E m h1 h2, rungOf_val]
theorem ratio_bump (a b D : Nat) (hb : 0 < b) : bumpN (a / b / 2 ^ D) (decide (a % b ≠ 0) || decide (a / b % 2 ^ D ≠ 0)) = rhe a (b * 2 ^ (D + 1)) := by
 rw [Nat.pow_succ, Nat.mul_comm (2 ^ D) 2, rhe_cut a b (2 ^ D) hb (Nat.two_pow_pos D)]
 unfold bumpN
 rw [show a / b / (2 * 2 ^ D) = a / b / 2 ^ D / 2 from by rw [Nat.div_div_eq_div_mul _ (2 ^ D) 2, Nat.mul_comm 2]]
 congr 1
 simp only [Bool.or_eq_true, decide_eq_true_eq, or_assoc]
theorem ratio_size {a b d : Nat} (hb : 0 < b) (h1 : (a / b).log2 ≤ d + 52) : rhe a (b * 2 ^ d) ≤ 2 ^ 53 := by
 refine rhe_le_of _ _ _ (Nat.mul_pos hb (Nat.two_pow_pos d)) ?_
 have h2 : a / b < 2 ^ (d + 53) := Nat.lt_of_lt_of_le Nat.lt_log2_self (Nat.pow_le_pow_right (show 0 < 2 by decide) (by omega))
 have h3 := (Nat.div_lt_iff_lt_mul hb).1 h2
 rw [Nat.mul_assoc, ← Nat.pow_add, Nat.mul_comm]
 exact Nat.le_of_lt h3
theorem ratio_full {a b d : Nat} (hb : 0 < b) (hq : a / b ≠ 0) (h1 : d + 52 ≤ (a / b).log2) : 2 ^ 52 ≤ rhe a (b * 2 ^ d) := by
 refine rhe_ge_of _ _ _ (Nat.mul_pos hb (Nat.two_pow_pos d)) ?_
 have h2 : 2 ^ (d + 52) ≤ a / b := (Nat.le_log2 hq).1 h1
 have h3 := (Nat.le_div_iff_mul_le hb).1 h2
 rw [Nat.mul_assoc, ← Nat.pow_add, Nat.mul_comm]
 exact h3
theorem ratio_up {a b n D : Nat} (hb : 0 < b) (hq : 2 ^ 55 ≤ a * 2 ^ n / b) (hD : max ((blen (a * 2 ^ n / b) : Int) - 53) (-1074 - (-(n : Int))) = (D : Int) + 1) :
  near (bumpN (a * 2 ^ n / b / 2 ^ D) (decide (a * 2 ^ n % b ≠ 0) || decide (a * 2 ^ n / b % 2 ^ D ≠ 0))) (-(n : Int) + (D + 1 : Nat)) = rungQ (a * 2 ^ 1074) b := by
 have hp := Nat.two_pow_pos 55
 have hq0 : a * 2 ^ n / b ≠ 0 := by omega
 have hbl := blen_pos _ (Nat.pos_of_ne_zero hq0)
 have hlg := (Nat.le_log2 hq0 (k := 55)).2 hq
 rw [hbl] at hD
 rw [ratio_bump _ _ _ hb, rungQ_up a b 1074 n (D + 1) hb hq (by omega) (by omega),
  show (-(n : Int) + (D + 1 : Nat)) = ((1074 + (D + 1) - n : Nat) : Int) - 1074 by omega]
 refine near_em _ _ (ratio_size hb (by omega)) ?_
 rcases Nat.lt_or_ge (a * 2 ^ n / b).log2 (D + 1 + 52) with h | h
 ·left; omega
 ·right; exact ratio_full hb hq0 h
theorem ratio_down {a b n D : Nat} (hb : 0 < b) (hq : 2 ^ 55 ≤ a / (b * 2 ^ n)) (hD : max ((blen (a / (b * 2 ^ n)) : Int) - 53) (-1074 - (n : Int)) = (D : Int) + 1) :
  near (bumpN (a / (b * 2 ^ n) / 2 ^ D) (decide (a % (b * 2 ^ n) ≠ 0) || decide (a / (b * 2 ^ n) % 2 ^ D ≠ 0))) ((n : Int) + (D + 1 : Nat)) = rungQ (a * 2 ^ 1074) b := by
 have hp := Nat.two_pow_pos 55
 have hq0 : a / (b * 2 ^ n) ≠ 0 := by omega
 have hbl := blen_pos _ (Nat.pos_of_ne_zero hq0)
 have hlg := (Nat.le_log2 hq0 (k := 55)).2 hq
 have hb2 : 0 < b * 2 ^ n := Nat.mul_pos hb (Nat.two_pow_pos n)
 rw [hbl] at hD
 rw [ratio_bump _ _ _ hb2, rungQ_down a b 1074 n (D + 1) hb hq (by omega),
  show ((n : Int) + (D + 1 : Nat)) = ((1074 + (D + 1) + n : Nat) : Int) - 1074 by omega]
 exact near_em _ _ (ratio_size hb2 (by omega)) (.inr (ratio_full hb2 hq0 (by omega)))
theorem quo_56 {a b : Nat} (hb : 0 < b) (h : blen a = blen b + 56) : 2 ^ 55 ≤ a / b ∧ a / b < 2 ^ 57 := by
 have ha : 0 < a := by
  rcases Nat.eq_zero_or_pos a with h0 | h0
  ·subst h0; simp [blen] at h
  ·exact h0
 have h1 := le_blen a ha
 have h2 := lt_blen a
 have h3 := le_blen b hb
 have h4 := lt_blen b
 have hb1 := blen_pos0 hb
 constructor
 ·rw [Nat.le_div_iff_mul_le hb]
  refine Nat.le_trans ?_ h1
  rw [h, show blen b + 56 - 1 = 55 + blen b by omega, Nat.pow_add]
  exact Nat.mul_le_mul_left _ (Nat.le_of_lt h4)
 ·rw [Nat.div_lt_iff_lt_mul hb]
  refine Nat.lt_of_lt_of_le h2 ?_
  rw [h, show blen b + 56 = 57 + (blen b - 1) by omega, Nat.pow_add]
  exact Nat.mul_le_mul_left _ h3
end Go.Proofs.YtlgencbldbpbdaaGreatDoor
namespace Go.Proofs.YtlgencbldbpbdaaGreatDoor
open Go.RowKit Fl
theorem nv_len {w : World} {v : Value} {r : Nat} (h : NV w v r) : ∃ A n c, v = .slice A n c ∧ decide (0 < n) = decide (r ≠ 0) := by
 obtain ⟨l, nl, hc, rfl⟩ := h
 obtain ⟨A, c, rfl⟩ := nl.form
 refine ⟨A, _, c, rfl, ?_⟩
 congr 1
 refine propext ⟨fun h h0 => ?_, fun h => ?_⟩
 ·have := val_zero hc h0
  rw [this] at h; exact absurd h (Nat.lt_irrefl _)
 ·rcases Nat.eq_zero_or_pos l.length with h0 | h0
  ·rw [List.eq_nil_of_length_eq_zero h0] at h; exact absurd rfl h
  ·exact h0
theorem near_call {w : World} {v : Value} {q D R : Nat} {e : Int} {m : Bool} (hv : NV w v q) (h0 : 2 ^ 55 ≤ q) (h1 : q < 2 ^ 57) (he : -5000 ≤ e) (he2 : e ≤ 3000) (hD : max ((blen q : Int) - 53) (-1074 - e) = (D : Int) + 1) (hD2 : D ≤ 1500) (hR : R = min (near (bumpN (q / 2 ^ D) (m || decide (q % 2 ^ D ≠ 0))) (e + (D + 1 : Nat))) INF) :
  Calls Tryz.prog 288 #[v, .int .i64 e, .bool m] w fun x w' => x = .returned (.float .f64 R) ∧ Below w.heap.size w w' := by
 rw [hR]
 have hp := Nat.two_pow_pos 55
 exact lNearestM hv (by omega) (Nat.lt_trans h1 (Nat.pow_lt_pow_right (by decide) (show 57 < 64 by decide))) he he2 hD hD2
set_option maxRecDepth 100000 in
set_option maxHeartbeats 2000000 in
theorem lRatio {w : World} {va vb : Value} {a b : Nat} (hva : NV w va a) (hvb : NV w vb b) (ha : 0 < a) (hb : 0 < b) (sa : blen a ≤ 10000) (sb : blen b ≤ 10000) (h1 : blen b ≤ blen a + 1700) (h2 : blen a ≤ blen b + 1700) :
  Calls Tryz.prog 257 #[va, vb] w fun x w' => x = .returned (.float .f64 (min (rungQ (a * 2 ^ K) b) INF)) ∧ Below w.heap.size w w' := by
 obtain ⟨R, hR⟩ : ∃ R, R = min (rungQ (a * 2 ^ K) b) INF := ⟨_, rfl⟩
 rw [← hR]
 have C1 := Lib.hid (c80 hva (by omega))
 have C2 := Lib.hid (c80 hvb (by omega))
 have i1 : (blen a : Int) ≤ 10000 := by omega
 have i2 : (blen b : Int) ≤ 10000 := by omega
 have i3 : (0 : Int) ≤ (blen a : Int) := by omega
 have i4 : (0 : Int) ≤ (blen b : Int) := by omega
 have HV := Lib.hid (And.intro hva hvb)
 have e74 : K = 1074 := rfl
 rw [e74] at hR
 by_cases hs : blen a ≤ blen b + 56
 ·obtain ⟨n, hn⟩ : ∃ n, blen b + 56 = blen a + n := ⟨blen b + 56 - blen a, by omega⟩
  have es : 56 - ((blen a : Int) - (blen b : Int)) = (n : Int) := by omega
  have hl : blen (a * 2 ^ n) = blen b + 56 := by rw [blen_mul a n ha]; omega
  obtain ⟨q1, q2⟩ := quo_56 hb hl
  have CL := Lib.hid (c40 (n := n) hva (by omega))
  have CQ := Lib.hid (fun (wx : World) u1 u2 (h1 : NV wx u1 (a * 2 ^ n)) (h2 : NV wx u2 b) => c39 h1 h2 hb (by omega) (by omega))
  have hbq : blen (a * 2 ^ n / b) ≤ 57 := blen_lt _ _ q2
  have hbq2 : 54 ≤ blen (a * 2 ^ n / b) := by
   have := blen_mono q1
   exact Nat.le_trans (by decide) this
  obtain ⟨D, hD⟩ : ∃ D : Nat, max ((blen (a * 2 ^ n / b) : Int) - 53) (-1074 - (-(n : Int))) = (D : Int) + 1 := ⟨(max ((blen (a * 2 ^ n / b) : Int) - 53) (-1074 - (-(n : Int))) - 1).toNat, by omega⟩
  have CN := Lib.hid (fun (wx : World) u (h : NV wx u (a * 2 ^ n / b)) => near_call (D := D) (R := R) (m := decide (a * 2 ^ n % b ≠ 0)) (e := -(n : Int)) h q1 q2 (by omega) (by omega) hD (by omega) (by rw [ratio_up hb q1 hD, hR]))
  have n1 : (n : Int) ≤ 1756 := by omega
  have n0 : (0 : Int) ≤ (n : Int) := by omega
  have d1 : decide (0 ≤ n) = true := decide_eq_true (Nat.zero_le _)
  clear hva hvb ha hb sa sb h1 h2 hs hl hR q1 q2 hbq hbq2 hD hn
  go_enter Tryz.func257, Tryz.ntmps257
  go_wp2_with (first
   | (go_at_call 251; with_reducible refine C1.out.mono ?_; rintro e w' ⟨rfl, rfl⟩)
   | (go_at_call 251; with_reducible refine C2.out.mono ?_; rintro e w' ⟨rfl, rfl⟩)
   | (go_at_call 246; (try rw [es]); refine CL.out.mono ?_; rintro e w2 ⟨hb2, v2, rfl, hv2⟩; have B2 := Lib.hid hb2; have V2 := Lib.hid hv2; have U2 := Lib.hid (HV.out.2.below hb2); clear hb2 hv2)
   | (go_at_call 189; refine (CQ.out _ _ _ V2.out U2.out).mono ?_; rintro e w3 ⟨hb3, u1, u2, rfl, k1, k2⟩; obtain ⟨A, m, c, rfl, hm⟩ := nv_len k2; have HM := Lib.hid hm; have K1 := Lib.hid k1; have B3 := Lib.hid (B2.out.trans (hb3.mono B2.out.size)); clear hb3 k1 k2 hm)
   | (go_at_call 288; rw [HM.out]; refine (CN.out _ _ K1.out).mono ?_; rintro x w4 ⟨rfl, hb4⟩; have B4 := Lib.hid (B3.out.trans (hb4.mono B3.out.size)); clear hb4))
  go_ret
  exact ⟨rfl, B4.out⟩
 ·obtain ⟨n, hn⟩ : ∃ n, blen a = blen b + 56 + n := ⟨blen a - blen b - 56, by omega⟩
  have es : 56 - ((blen a : Int) - (blen b : Int)) = -(n : Int) := by omega
  have hb2 : 0 < b * 2 ^ n := Nat.mul_pos hb (Nat.two_pow_pos n)
  have hl : blen a = blen (b * 2 ^ n) + 56 := by rw [blen_mul b n hb]; omega
  obtain ⟨q1, q2⟩ := quo_56 hb2 hl
  have CL := Lib.hid (c40 (n := n) hvb (by omega))
  have CQ := Lib.hid (fun (wx : World) u1 u2 (h1 : NV wx u1 a) (h2 : NV wx u2 (b * 2 ^ n)) => c39 h1 h2 hb2 (by omega) (by omega))
  have hbq : blen (a / (b * 2 ^ n)) ≤ 57 := blen_lt _ _ q2
  have hbq2 : 54 ≤ blen (a / (b * 2 ^ n)) := by
   have := blen_mono q1
   exact Nat.le_trans (by decide) this
  obtain ⟨D, hD⟩ : ∃ D : Nat, max ((blen (a / (b * 2 ^ n)) : Int) - 53) (-1074 - (n : Int)) = (D : Int) + 1 := ⟨(max ((blen (a / (b * 2 ^ n)) : Int) - 53) (-1074 - (n : Int)) - 1).toNat, by omega⟩
  have CN := Lib.hid (fun (wx : World) u (h : NV wx u (a / (b * 2 ^ n))) => near_call (D := D) (R := R) (m := decide (a % (b * 2 ^ n) ≠ 0)) (e := (n : Int)) h q1 q2 (by omega) (by omega) hD (by omega) (by rw [ratio_down hb q1 hD, hR]))
  have n1 : (n : Int) ≤ 1756 := by omega
  have n0 : (1 : Int) ≤ (n : Int) := by omega
  have n2 : IntKind.i64.wrap (- -(n : Int)) = (n : Int) := by rw [Int.neg_neg]; exact IntWalk.i64_in _ (by omega)
  have n3 : ¬ (0 : Int) ≤ -(n : Int) := by omega
  clear hva hvb ha hb sa sb h1 h2 hs hl hR q1 q2 hbq hbq2 hD hn hb2
  go_enter Tryz.func257, Tryz.ntmps257
  go_wp2_with (first
   | (go_at_call 251; with_reducible refine C1.out.mono ?_; rintro e w' ⟨rfl, rfl⟩)
   | (go_at_call 251; with_reducible refine C2.out.mono ?_; rintro e w' ⟨rfl, rfl⟩)
   | (go_at_call 246; (try rw [es]); refine CL.out.mono ?_; rintro e w2 ⟨hb2, v2, rfl, hv2⟩; have B2 := Lib.hid hb2; have V2 := Lib.hid hv2; have U2 := Lib.hid (HV.out.1.below hb2); clear hb2 hv2)
   | (go_at_call 189; refine (CQ.out _ _ _ U2.out V2.out).mono ?_; rintro e w3 ⟨hb3, u1, u2, rfl, k1, k2⟩; obtain ⟨A, m, c, rfl, hm⟩ := nv_len k2; have HM := Lib.hid hm; have K1 := Lib.hid k1; have B3 := Lib.hid (B2.out.trans (hb3.mono B2.out.size)); clear hb3 k1 k2 hm)
   | (go_at_call 288; rw [HM.out]; refine (CN.out _ _ K1.out).mono ?_; rintro x w4 ⟨rfl, hb4⟩; have B4 := Lib.hid (B3.out.trans (hb4.mono B3.out.size)); clear hb4))
  go_ret
  exact ⟨rfl, B4.out⟩
end Go.Proofs.YtlgencbldbpbdaaGreatDoor
