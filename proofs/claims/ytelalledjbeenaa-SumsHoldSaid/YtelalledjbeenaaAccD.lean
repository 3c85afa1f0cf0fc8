/- rounded: the walk. -/
import Derived.Test.YtelalledjbeenaaMgAccB
import Derived.Test.YtelalledjbeenaaAlive
import Derived.Deep.DeepCutAuto
import Derived.Deep.CutBlock
import Derived.Outline
namespace Go.Proofs.Ytelalledjbeenaa
open Go.RowKit Fl

theorem len138 (z : Int) : (Try.prog.info? 138).map (·.size) = some (WL z).length := by rw [WL_len]; exact size138
theorem rangeB {w wx : World} {z : Int} (h : Below (w.alloc (.cells (WL z).toArray 138)).heap.size (w.alloc (.cells (WL z).toArray 138)) wx) : wx.rangeAt w.heap.size 0 (WL z) :=
  ((row_alloc w z).below h (by simp)).range
theorem cellB {w wx : World} {n : Nat} (h : Below (w.alloc (.cells (WL (n : Int)).toArray 138)).heap.size (w.alloc (.cells (WL (n : Int)).toArray 138)) wx) (t : Nat) (ht : t < 40) : wx.cell? ⟨w.heap.size, t, none⟩ = some (.int .u64 (wn n t)) := by
  rw [(((row_alloc w (n : Int)).below h (by simp)) t ht).1, wd_nat]

set_option maxRecDepth 100000 in
set_option maxHeartbeats 1000000 in
theorem c145a (n : Nat) (w : World) (h : n < 2 ^ (64 * CAP)) (hs : blen n ≤ 53) : Calls Try.prog 145 #[.agg (WL (n : Int)).toArray] w fun e w' => e = .returned (.float .f64 (rnd n)) ∧ Below w.heap.size w w' := by
  have hn := blen_le_small n hs
  have H := Lib.hid (rnd_small n hn)
  have hw0 : wn n 0 = n := by unfold wn; rw [Nat.mul_zero, Nat.pow_zero, Nat.div_one]; exact Nat.mod_eq_of_lt (by omega)
  have HW := Lib.hid hw0
  have H180 := Lib.hid (fun wx => c180 n wx h)
  have HB0 := Lib.hid (Below.refl (w.alloc (.cells (WL (n : Int)).toArray 138)).heap.size (w.alloc (.cells (WL (n : Int)).toArray 138)))
  have hs' : (blen n : Int) ≤ 53 := by omega
  clear hn hw0 h hs
  go_enter Try.func145, Try.ntmps145
  go_wp2_with (first
    | (refine wpList_load_mid rfl 138 (.tmp 1) rfl w.heap.size 0 rfl (WL (n : Int)) _ (rangeB HB0.out) Try.underlying138 rfl (len138 _) ?_)
    | (go_at_call 180; fail))
  refine (H180.out _).mono ?_
  rintro e w1 ⟨rfl, hb⟩
  have c0 := cellB hb 0 (by omega)
  rw [HW.out] at c0
  have B1 := below_of_alloc (Below.refl _ _) hb
  clear hb
  go_wp2
  go_ret
  exact ⟨ret_float H.out.symm, B1⟩

set_option maxRecDepth 100000 in
set_option maxHeartbeats 1000000 in
theorem c145b (n d : Nat) (w : World) (h : n < 2 ^ (64 * CAP)) (hs : blen n = d + 53) (hd : 2046 ≤ d) : Calls Try.prog 145 #[.agg (WL (n : Int)).toArray] w fun e w' => e = .returned (.float .f64 (rnd n)) ∧ Below w.heap.size w w' := by
  have hr : rnd n = 9218868437227405312 := by
    have h1 := rung_drop n d hs
    have h2 := (top_bounds n d hs).1
    have h3 : n / 2 ^ d ≤ rhe n (2 ^ d) := by unfold rhe; omega
    unfold rnd INF; omega
  rw [hr]
  have H180 := Lib.hid (fun wx => c180 n wx h)
  have HB0 := Lib.hid (Below.refl (w.alloc (.cells (WL (n : Int)).toArray 138)).heap.size (w.alloc (.cells (WL (n : Int)).toArray 138)))
  have hsi : (blen n : Int) = (d : Int) + 53 := by omega
  have HS := Lib.hid hsi
  have hdi : (2046 : Int) ≤ (d : Int) := by omega
  have hd2 : (d : Int) ≤ 2560 := by have := blen_lt n _ h; rw [CAP_eq] at this; omega
  clear hr h hs hsi hd
  go_enter Try.func145, Try.ntmps145
  go_wp2_with (first
    | (refine wpList_load_mid rfl 138 (.tmp 1) rfl w.heap.size 0 rfl (WL (n : Int)) _ (rangeB HB0.out) Try.underlying138 rfl (len138 _) ?_)
    | (go_at_call 180; fail))
  refine (H180.out _).mono ?_
  rintro e w1 ⟨rfl, hb⟩
  rw [HS.out]
  have B1 := below_of_alloc (Below.refl _ _) hb
  clear hb
  go_wp2_with (go_at_call 137; refine (c137p _).mono ?_; rintro e w' ⟨rfl, rfl⟩)
  go_ret
  exact ⟨rfl, B1⟩

theorem wrap_succ (q : Nat) (h : q < 9007199254740992) : IntKind.u64.wrap ((q : Int) + 1) = ((q + 1 : Nat) : Int) := by rw [IntKind.wrap_u64]; omega
def rb (n k : Nat) : Bool := decide (n % 2 ^ k ≠ 0)
theorem rest_step (n k : Nat) (h : n % 2 ^ k = 0) : decide (n / 2 ^ k % 2 = 1) = rb n (k + 1) := by
  unfold rb
  have hp := Nat.two_pow_pos k
  have e : n % 2 ^ (k + 1) = n % 2 ^ k + 2 ^ k * (n / 2 ^ k % 2) := by rw [Nat.pow_succ, Nat.mod_mul]
  rw [e, h, Nat.zero_add]
  have h2 : n / 2 ^ k % 2 = 0 ∨ n / 2 ^ k % 2 = 1 := by omega
  rcases h2 with h2 | h2 <;> rw [h2] <;> simp
theorem rest_more (n k m : Nat) (hk : k ≤ m) (h : n % 2 ^ k ≠ 0) : n % 2 ^ m ≠ 0 := by
  intro h0
  apply h
  have : 2 ^ k ∣ 2 ^ m := Nat.pow_dvd_pow 2 hk
  exact Nat.mod_eq_zero_of_dvd (Nat.dvd_trans this (Nat.dvd_of_mod_eq_zero h0))

set_option maxRecDepth 100000 in
set_option maxHeartbeats 4000000 in
theorem c145c (n d : Nat) (w : World) (h : n < 2 ^ (64 * CAP)) (hs : blen n = d + 53) (hd1 : 1 ≤ d) (hd : d ≤ 2045) : Calls Try.prog 145 #[.agg (WL (n : Int)).toArray] w fun e w' => e = .returned (.float .f64 (rnd n)) ∧ Below w.heap.size w w' := by
  obtain ⟨t1, t2⟩ := top_bounds n d hs
  have hrung := rung_drop n d hs
  have hrhe := rhe_half n d hd1
  have H180 := Lib.hid (fun wx => c180 n wx h)
  have HB0 := Lib.hid (Below.refl (w.alloc (.cells (WL (n : Int)).toArray 138)).heap.size (w.alloc (.cells (WL (n : Int)).toArray 138)))
  have hsi : (blen n : Int) = (d : Int) + 53 := by omega
  have HS := Lib.hid hsi
  have hdi : (1 : Int) ≤ (d : Int) := by omega
  have hd2 : (d : Int) ≤ 2045 := by omega
  have HD1 := Lib.hid hd1
  have HD := Lib.hid hd
  have hq : (d : Int) / 64 + 1 < 40 := by omega
  have hx : n / 2 ^ d % 18446744073709551616 = n / 2 ^ d := Nat.mod_eq_of_lt (by omega)
  have hm := b_53 (n / 2 ^ d) (n / 2 ^ d) t2 hx.symm
  have hj := words_join n d
  have ho := words_one n d
  rw [hx] at hj ho
  have e5 := wrap_succ (n / 2 ^ d) t2
  have eo := b_one (n / 2 ^ d) (Nat.lt_of_lt_of_le t2 (by decide))
  clear hx
  generalize n / 2 ^ d = q at *
  have HT1 := Lib.hid t1
  have HT2 := Lib.hid t2
  have HRU := Lib.hid hrung
  have HRH := Lib.hid hrhe
  have HE5 := Lib.hid e5
  have HEO := Lib.hid eo
  clear h hs hsi hd t1 t2 hrung hrhe hd1 e5 eo
  go_enter Try.func145, Try.ntmps145
  go_wp2_with (first
    | (refine wpList_load_mid rfl 138 (.tmp 1) rfl w.heap.size 0 rfl (WL (n : Int)) _ (rangeB HB0.out) Try.underlying138 rfl (len138 _) ?_)
    | (go_at_call 180; fail))
  refine (H180.out _).mono ?_
  rintro e w1 ⟨rfl, hb⟩
  rw [HS.out]
  have hq2 : d / 64 < 40 := by omega
  have hq3 : d / 64 + 1 < 40 := by omega
  have c0 := cellB hb (d / 64) hq2
  have c1 := cellB hb (d / 64 + 1) hq3
  have HB := Lib.hid hb
  clear hb H180 HB0 hq2 hq3
  go_upto_if 31 with fail
  go_cut [5] (fun s wx => s = .int .u64 (q : Int) ∧ wx = w1)
  case first =>
    by_cases hr : 0 < d % 64
    · have hj' := hj hr
      have e1 : (wn n (d / 64) : Int) / 2 ^ (d % 64) = ((wn n (d / 64) / 2 ^ (d % 64) : Nat) : Int) := by push_cast; rfl
      have hri : (0 : Int) < (d : Int) % 64 := by omega
      clear hj ho hr
      generalize wn n (d / 64) / 2 ^ (d % 64) = V at *
      go_wp2
      go_meet
      exact ⟨rfl, rfl⟩
    · have hr0 : d % 64 = 0 := by omega
      have ho' := ho hr0
      have hri : ¬ (0 : Int) < (d : Int) % 64 := by omega
      have e1 : (wn n (d / 64) : Int) / 2 ^ (d % 64) = (q : Int) := by
        rw [hr0, ← ho', Int.pow_zero, Int.ediv_one]
      clear hj ho hr ho' hr0
      go_wp2
      go_meet
      exact ⟨rfl, rfl⟩
  case rest =>
    obtain ⟨rfl, rfl⟩ := hcut
    clear hj ho c0 c1
    go_wp2_with (first
      | (refine wpList_load_mid rfl 138 (.tmp 1) rfl w.heap.size 0 rfl (WL (n : Int)) _ (rangeB HB.out) Try.underlying138 rfl (len138 _) ?_)
      | (go_at_call 181; fail))
    have e9 : ((d : Int) - 1) = ((d - 1 : Nat) : Int) := by have := HD1.out; omega
    rw [e9]
    refine (c181 n (d - 1) _ (by have := HD.out; omega)).mono ?_
    rintro e w2 ⟨rfl, hb2⟩
    have HB2 := Lib.hid (HB.out.trans (hb2.mono HB.out.size))
    clear hb2 HB
    obtain ⟨hf, hhf⟩ : ∃ b : Bool, b = decide (n / 2 ^ (d - 1) % 2 = 1) := ⟨_, rfl⟩
    rw [← hhf]
    have HF := Lib.hid hhf
    clear hhf
    go_upto_block 0 with fail
    go_cut [7, 8] (fun r i wx => r = .bool (rb n (d - 1)) ∧ Hid (Below (w.alloc (.cells (WL (n : Int)).toArray 138)).heap.size (w.alloc (.cells (WL (n : Int)).toArray 138)) wx))
    case first =>
      go_wp2_with fail
      go_loopw [7, 8] (fun r i wx => ∃ k : Nat, k ≤ d - 1 ∧ i = .int .i64 k ∧ r = .bool (rb n k) ∧ Hid (Below (w.alloc (.cells (WL (n : Int)).toArray 138)).heap.size (w.alloc (.cells (WL (n : Int)).toArray 138)) wx)) (fun _ i _ => d - (intOf i).toNat)
      case atStart => exact ⟨0, by omega, rfl, by simp [rb, Nat.mod_one], HB2⟩
      case round =>
        obtain ⟨k, hk, rfl, rfl, hB⟩ := hrel
        by_cases hz : n % 2 ^ k = 0
        · have er : rb n k = false := decide_eq_false (by omega)
          rw [er]
          by_cases hlt : k < d - 1
          · have hki : (k : Int) < (d : Int) - 1 := by omega
            have hst := rest_step n k hz
            have HK := Lib.hid (show k < 2560 by have := HD.out; omega)
            have HLT := Lib.hid hlt
            clear er hz hlt
            go_wp2_with (first
              | (refine wpList_load_mid rfl 138 (.tmp 1) rfl w.heap.size 0 rfl (WL (n : Int)) _ (rangeB hB.out) Try.underlying138 rfl (len138 _) ?_)
              | (go_at_call 181; refine (c181 n k _ HK.out).mono ?_; rintro e w3 ⟨rfl, hb3⟩; rw [hst]; have HB3 := Lib.hid (hB.out.trans (hb3.mono hB.out.size)); clear hb3))
            go_roundw
            case rel => exact ⟨k + 1, by have := HLT.out; omega, by go_num, rfl, HB3⟩
            case measure => have := HLT.out; have := HD1.out; simp [intOf]; omega
          · have hk2 : k = d - 1 := by omega
            have hki : ¬ (k : Int) < (d : Int) - 1 := by omega
            have e7 : rb n (d - 1) = false := by rw [← hk2]; exact er
            have E7 := Lib.hid e7
            clear er hz hlt hk2 e7
            go_wp2
            go_meet
            exact ⟨by rw [E7.out], hB⟩
        · have er : rb n k = true := decide_eq_true (by omega)
          have e7 : rb n (d - 1) = true := decide_eq_true (rest_more n k (d - 1) hk (by omega))
          have E7 := Lib.hid e7
          rw [er]
          clear er hz e7
          go_wp2
          all_goals
            go_meet
            exact ⟨by rw [E7.out], hB⟩
    case rest =>
      obtain ⟨rfl, hB⟩ := hcut
      clear HB2
      have eo := HEO.out
      have e5 := HE5.out
      have hM : Hid (rhe n (2 ^ d) = q + (if (hf && (rb n (d - 1) || decide (q % 2 = 1))) = true then 1 else 0)) := by
        have h1 := HRH.out
        have h2 := HF.out
        rw [h2]
        unfold rb
        refine Lib.hid (h1.trans ?_)
        simp only [Bool.and_eq_true, Bool.or_eq_true, decide_eq_true_eq]
      have hR : Hid (rnd n = min (d * 4503599627370496 + rhe n (2 ^ d)) INF) := Lib.hid (by unfold rnd; rw [HRU.out])
      obtain ⟨M, hMM⟩ : ∃ M, M = rhe n (2 ^ d) := ⟨_, rfl⟩
      rw [← hMM] at hM hR
      have hm1 : Hid (4503599627370496 ≤ M ∧ M ≤ 9007199254740992) := by
        have h1 := hM.out
        have h2 := HT1.out
        have h3 := HT2.out
        refine Lib.hid ?_
        rw [h1]; split <;> omega
      have B4 : Hid (Below w.heap.size w wc) := Lib.hid (below_of_alloc (Below.refl _ _) hB.out)
      clear hMM HRH HF HRU hm HEO HE5
      generalize rb n (d - 1) = R at *
      generalize decide (q % 2 = 1) = O at *
      clear HT1 HT2 hB HS
      go_upto_region 16 with fail
      go_cut [70] (fun s wx => s = .bool (hf && (R || O)) ∧ wx = wc)
      case first =>
        cases hf <;> cases R <;> cases O
        all_goals
          go_wp2
          all_goals
            go_meet
            exact ⟨rfl, rfl⟩
      case rest =>
        obtain ⟨rfl, rfl⟩ := hcut
        generalize (hf && (R || O)) = up at *
        go_upto_if 70 with fail
        go_cut [5] (fun s wx => s = .int .u64 (M : Int) ∧ wx = wc)
        case first =>
          cases up
          · have e8 : q = M := by have := hM.out; simp at this; omega
            subst e8
            clear e5 eo
            go_wp2
            go_meet
            exact ⟨rfl, rfl⟩
          · have e8 : q + 1 = M := by have := hM.out; simp at this; omega
            have E8 := Lib.hid e8
            clear eo e8
            go_wp2
            go_meet
            exact ⟨by have e := E8.out; rw [← e]; rfl, rfl⟩
        case rest =>
          obtain ⟨rfl, rfl⟩ := hcut
          clear eo e5 hM
          have hR1 := hR.out
          obtain ⟨m1, m2⟩ := hm1.out
          by_cases hM : M = 9007199254740992
          · have e1 : ((M : Int) == 9007199254740992) = true := by rw [hM]; rfl
            have e2 : (M : Int) / 2 = 4503599627370496 := by rw [hM]; rfl
            have d0 : d ≤ 2045 := HD.out
            by_cases hT : d = 2045
            · have r1 : rnd n = 9218868437227405312 := by rw [hR1, hM, hT]; rfl
              have dt : (d : Int) + 1 + 1 = 2047 := by omega
              have R1 := Lib.hid r1
              clear hR1 r1 m1 m2 hM hR
              go_wp2_with (go_at_call 137; refine (c137p _).mono ?_; rintro e w' ⟨rfl, rfl⟩)
              go_ret
              exact ⟨ret_float R1.out.symm, B4.out⟩
            · have r1 : rnd n = (d + 2) * 4503599627370496 := by rw [hR1, hM]; unfold INF; omega
              have dt : (d : Int) + 1 + 1 ≤ 2046 := by omega
              have hu : U ((d + 2) * 4503599627370496) := by unfold U; omega
              have R1 := Lib.hid r1
              have hj : bits .or .u64 (((d : Int) + 1 + 1) * 4503599627370496) (bits .and .u64 4503599627370496 4503599627370495) = (((d + 2) * 4503599627370496 : Nat) : Int) := by
                have e9 := b_join (d + 1) 4503599627370496 (by omega) (by omega) (by omega)
                rw [show ((d + 1 : Nat) : Int) - 1074 + 1075 = (d : Int) + 1 + 1 by omega, show (d + 1) * 4503599627370496 + 4503599627370496 = (d + 2) * 4503599627370496 by omega] at e9
                exact e9
              clear hR1 r1 m1 m2 hM hR
              generalize (d + 2) * 4503599627370496 = R at *
              have HU := Lib.hid hu
              clear hu
              go_wp2_with (go_at_call 153; refine (x153 _ HU.out _).mono ?_; rintro e w' ⟨rfl, rfl⟩)
              go_ret
              exact ⟨ret_float R1.out.symm, B4.out⟩
          · have e1 : ((M : Int) == 9007199254740992) = false := by simp; omega
            have d0 : d ≤ 2045 := HD.out
            have r1 : rnd n = d * 4503599627370496 + M := by rw [hR1]; unfold INF; omega
            have dt : (d : Int) + 1 ≤ 2046 := by omega
            have hu : U (d * 4503599627370496 + M) := by unfold U; omega
            have hj : bits .or .u64 (((d : Int) + 1) * 4503599627370496) (bits .and .u64 (M : Int) 4503599627370495) = ((d * 4503599627370496 + M : Nat) : Int) := by
              have e9 := b_join d M (by omega) (by omega) (by omega)
              rw [show (d : Int) - 1074 + 1075 = (d : Int) + 1 by omega] at e9
              exact e9
            have R1 := Lib.hid r1
            clear hR1 r1 hM hR m1 m2
            generalize d * 4503599627370496 + M = R at *
            have HU := Lib.hid hu
            clear hu
            go_wp2_with (go_at_call 153; refine (x153 _ HU.out _).mono ?_; rintro e w' ⟨rfl, rfl⟩)
            go_ret
            exact ⟨ret_float R1.out.symm, B4.out⟩

theorem c145 (n : Nat) (w : World) (h : n < 2 ^ (64 * CAP)) : Calls Try.prog 145 #[.agg (WL (n : Int)).toArray] w fun e w' => e = .returned (.float .f64 (rnd n)) ∧ Below w.heap.size w w' := by
  by_cases h1 : blen n ≤ 53
  · exact c145a n w h h1
  · obtain ⟨d, hd⟩ : ∃ d, blen n = d + 53 := ⟨blen n - 53, by omega⟩
    by_cases h2 : d ≤ 2045
    · exact c145c n d w h hd (by omega) h2
    · exact c145b n d w h hd (by omega)
end Go.Proofs.Ytelalledjbeenaa
