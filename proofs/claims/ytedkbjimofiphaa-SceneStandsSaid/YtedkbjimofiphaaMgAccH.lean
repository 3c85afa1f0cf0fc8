/- An Acc: Value. An Acc: Value, less than nought. An Acc: Join. Plain, and a list of floats in memory. Exact. Same, Two. Two. Exact of no numbers. Held: the closure. Held. Held. Plain laws: what rounding loses is a number. No program in sight. What + and - do, told by units: plain laws. Plain laws of sums: what + does, told by units; sums of whole numbers. What a sum of two loses is a number; Held, Plain, Pairs, Exact of at most two. Held, Plain, Pairs, Exact of at most two, and what two lose: by places. Pairs. Held and Pairs of no numbers; the head of all statements of layer 2: 'awake' answers true. -/
import Derived.Test.YtedkbjimofiphaaMgAccF
import Derived.Test.YtedkbjimofiphaaMgFl
import Derived.Test.YtedkbjimofiphaaMgAlive
import Derived.Test.YtedkbjimofiphaaMgJoin
import Derived.Test.YtedkbjimofiphaaF32
namespace Go.Proofs.Ytedkbjimofiphaa
open Go.RowKit Fl
/-- the place of what an Acc tells -/
def pV (s : AS) : Int :=
  if s.nan || (s.pos && s.neg) then 9223372036854775807 else if s.pos then 9218868437227405312 else if s.neg then -9218868437227405313
  else if s.z < 0 then -(rnd s.z.natAbs : Int) - 1 else if rnd s.z.natAbs = 0 ∧ s.any = false then -1 else (rnd s.z.natAbs : Int)
theorem c144 (w : World) : Calls Try.prog 48 #[] w fun e w' => e = .returned (.float .f64 QN) ∧ w = w' := by
  go_enter Try.func48, Try.ntmps48
  go_wp2_with (go_at_call 70; refine (c135 _).mono ?_; rintro e w' ⟨rfl, rfl⟩)
  go_ret
  exact ⟨rfl, rfl⟩
theorem c131 (w : World) : Calls Try.prog 51 #[] w fun e w' => e = .returned (.float .f64 9223372036854775808) ∧ w = w' := by
  go_enter Try.func51, Try.ntmps51
  go_wp2_with (go_at_call 73; refine (c175 0 13830554455654793216 _ (by unfold U; decide) (by unfold U; decide)).mono ?_; rintro e w' ⟨rfl, rfl⟩)
  go_ret
  exact ⟨ret_float (by decide), rfl⟩
def B2559 : Int := 2 ^ 2559
theorem sign_word (z : Int) (h1 : -B2559 ≤ z) (h2 : z < B2559) : (wd z 39 / 9223372036854775808 == 1) = decide (z < 0) := by
  unfold wd
  rw [show 64 * 39 = 2496 by rfl]
  have hP : B2559 = 9223372036854775808 * (2 : Int) ^ 2496 := by unfold B2559; rw [show (9223372036854775808 : Int) = 2 ^ 63 by rfl, ← Int.pow_add]
  have hp : (0 : Int) < 2 ^ 2496 := Int.pow_pos (by decide)
  rw [hP] at h1 h2
  generalize (2 : Int) ^ 2496 = p at *
  have hq2 : z / p < 9223372036854775808 := Int.ediv_lt_of_lt_mul hp h2
  have hq1 : -9223372036854775808 ≤ z / p := Int.le_ediv_of_mul_le hp (by omega)
  have hs : z / p < 0 ↔ z < 0 := ⟨fun h => by have := fun h0 : 0 ≤ z => Int.ediv_nonneg h0 (Int.le_of_lt hp); omega, fun h => Int.ediv_lt_of_lt_mul hp (by omega)⟩
  generalize z / p = q at *
  by_cases h0 : z < 0
  · have := hs.2 h0
    rw [decide_eq_true h0]; simp; omega
  · have : ¬ q < 0 := fun h => h0 (hs.1 h)
    rw [decide_eq_false h0]; simp; omega
theorem B2559_cap (n : Nat) (h : (n : Int) ≤ B2559) : n < 2 ^ (64 * CAP) := by
  have h2 : B2559 = ((2 ^ 2559 : Nat) : Int) := by unfold B2559; exact (Int.natCast_pow 2 2559).symm
  have h3 : n ≤ 2 ^ 2559 := by rw [h2] at h; exact Int.ofNat_le.1 h
  have h4 : ∀ k m : Nat, k < m → 2 ^ k < 2 ^ m := fun k m h => Nat.pow_lt_pow_right (by decide) h
  exact Nat.lt_of_le_of_lt h3 (h4 2559 (64 * CAP) (by rw [CAP_eq]; decide))
theorem wd_nn (z : Int) (i : Nat) : 0 ≤ wd z i := by unfold wd; exact Int.emod_nonneg _ (by decide)
theorem AS.boolsN (s : AS) (h : (s.nan || (s.pos && s.neg)) = true) : pV s = 9223372036854775807 := by unfold pV; rw [if_pos h]
set_option maxRecDepth 100000 in
set_option maxHeartbeats 1000000 in
theorem c39n (b : Nat) (s : AS) (w : World) (hs : AccAt w b s) (h : (s.nan || (s.pos && s.neg)) = true) :
    Calls Try.prog 23 #[.pointer (some ⟨b, 0, none⟩)] w fun e w' => RetF (pV s) e ∧ Below w.heap.size w w' := by
  rw [s.boolsN h]
  obtain ⟨_, k0, k1, k2, k3, f0, f1, f2, f3⟩ := hs
  obtain ⟨z, nan, pos, neg, any⟩ := s
  simp only at h k0 k1 k2 k3
  have hq : RetF 9223372036854775807 (.returned (.float .f64 QN)) := ⟨QN, rfl, by unfold U QN; decide, by decide⟩
  have H := Lib.hid hq
  clear hq
  cases nan <;> cases pos <;> cases neg <;> first | exact absurd h (by decide) | skip
  all_goals
    clear h
    go_enter Try.func23, Try.ntmps23
    go_wp2_with (go_at_call 48; refine (c144 _).mono ?_; rintro e w' ⟨rfl, rfl⟩)
    go_ret
    exact ⟨H.out, Below.refl _ _⟩
set_option maxRecDepth 100000 in
set_option maxHeartbeats 1000000 in
theorem c39i (b : Nat) (s : AS) (w : World) (hs : AccAt w b s) (h : (s.nan || (s.pos && s.neg)) = false) (h2 : (s.pos || s.neg) = true) :
    Calls Try.prog 23 #[.pointer (some ⟨b, 0, none⟩)] w fun e w' => RetF (pV s) e ∧ Below w.heap.size w w' := by
  obtain ⟨_, k0, k1, k2, k3, f0, f1, f2, f3⟩ := hs
  obtain ⟨z, nan, pos, neg, any⟩ := s
  simp only at h h2 k0 k1 k2 k3
  have hp : RetF 9218868437227405312 (.returned (.float .f64 9218868437227405312)) := ⟨_, rfl, by unfold U; decide, by decide⟩
  have hn : RetF (-9218868437227405313) (.returned (.float .f64 18442240474082181120)) := ⟨_, rfl, by unfold U; decide, by decide⟩
  have HP := Lib.hid hp
  have HN := Lib.hid hn
  clear hp hn
  cases nan <;> cases pos <;> cases neg <;> first | exact absurd h (by decide) | exact absurd h2 (by decide) | skip
  all_goals
    go_enter Try.func23, Try.ntmps23
    go_wp2_with (first | (go_at_call 49; refine (c137p _).mono ?_; rintro e w' ⟨rfl, rfl⟩) | (go_at_call 49; refine (c137n _).mono ?_; rintro e w' ⟨rfl, rfl⟩))
    go_ret
    first
    | exact ⟨HP.out, Below.refl _ _⟩
    | exact ⟨HN.out, Below.refl _ _⟩
theorem pl_small (r : Nat) (h : r ≤ INF) : pl r = (r : Int) := by
  have := pl_word false r h
  rw [if_neg (by decide)] at this
  exact this
theorem U_small {r : Nat} (h : r ≤ INF) : U r := by unfold U; unfold INF at h; omega
theorem eq_zero_false (r : Nat) (h : r ≤ INF) (h0 : r ≠ 0) : (FloatKind.f64.format.order r 0 == some Ordering.eq) = false := by
  rw [f_eq r 0 (U_small h) (by unfold U; decide), pl_small r h, pl_small 0 (by unfold INF; omega)]
  unfold feqP zk
  rw [if_neg (by omega), if_neg (by omega), decide_eq_false (show ¬ ((r : Int) = ((0 : Nat) : Int)) by omega), Bool.and_false]
theorem RetF_small (r : Nat) (h : r ≤ INF) : RetF (r : Int) (.returned (.float .f64 r)) := ⟨r, rfl, U_small h, pl_small r h⟩
theorem rnd_le_INF (n : Nat) : rnd n ≤ INF := by unfold rnd; exact Nat.min_le_right _ _
set_option maxRecDepth 100000 in
set_option maxHeartbeats 2000000 in
/-- not less than nought -/
theorem c39p (b n : Nat) (any : Bool) (w : World) (hs : AccAt w b ⟨(n : Int), false, false, false, any⟩) (hb : b < w.heap.size) (h2 : (n : Int) < B2559) :
    Calls Try.prog 23 #[.pointer (some ⟨b, 0, none⟩)] w fun e w' => RetF (pV ⟨(n : Int), false, false, false, any⟩) e ∧ Below w.heap.size w w' := by
  have hpv : pV ⟨(n : Int), false, false, false, any⟩ = if rnd n = 0 ∧ any = false then -1 else (rnd n : Int) := by
    unfold pV
    simp only [Bool.false_and, Bool.or_false, Bool.false_eq_true, if_false, Int.natAbs_natCast]
    rw [if_neg (by omega)]
  rw [hpv]
  obtain ⟨p, hp⟩ : ∃ p : Int, p = if rnd n = 0 ∧ any = false then -1 else (rnd n : Int) := ⟨_, rfl⟩
  rw [← hp]
  have HP := Lib.hid hp
  clear hp
  have HS := Lib.hid (sign_word (n : Int) (by unfold B2559 at *; have : (0:Int) ≤ 2 ^ 2559 := Int.le_of_lt (Int.pow_pos (by decide)); omega) h2)
  have HC := Lib.hid (B2559_cap n (by omega))
  have hr := rnd_le_INF n
  obtain ⟨hrow, k0, k1, k2, k3, f0, f1, f2, f3⟩ := hs
  simp only at hrow k0 k1 k2 k3
  obtain ⟨k39, _⟩ := hrow 39 (by omega)
  have HR := Lib.hid hrow
  have R1 := Lib.hid ((row_zero w).setAll (n : Int))
  have T1 : Hid ((w.alloc (.cells (Array.replicate 40 (.int .u64 0)) 99)).there w.heap.size 0 (WL (n : Int)).toArray.size) := Lib.hid ((row_zero w).there (by simp [WL_len]))
  have hi : (Try.prog.info? 99).map (·.size) = some (WL (n : Int)).toArray.size := by rw [size138]; simp [WL_len]
  have HI := Lib.hid hi
  have B1 := Lib.hid (below_setCells ((Below.refl w.heap.size w).alloc (Nat.le_refl _) (.cells (Array.replicate 40 (.int .u64 0)) 99)) (Nat.le_refl _) 0 (WL (n : Int)))
  have L1 : Hid (w.heap.size < ((w.alloc (.cells (Array.replicate 40 (.int .u64 0)) 99)).setCells w.heap.size 0 (WL (n : Int))).heap.size) := Lib.hid (by rw [size_setCells]; simp)
  have HB := Lib.hid hb
  have e0 : (wd (n : Int) 39 / 9223372036854775808 == 1) = false := by rw [HS.out]; exact decide_eq_false (by omega)
  clear h2 HS hi hpv
  have W39 : (0 : Int) ≤ wd (n : Int) 39 := wd_nn _ _
  generalize wd (n : Int) 39 = q at *
  go_enter Try.func23, Try.ntmps23
  go_upto_region 8 with fail
  go_cut [4] (fun p wx => p = .pointer (some ⟨w.heap.size, 0, none⟩) ∧ Hid (Row wx w.heap.size (wd (n : Int))) ∧ Hid (Below w.heap.size w wx) ∧ Hid (w.heap.size < wx.heap.size))
  case first =>
    go_wp2_with (first
      | (refine wpList_load_mid rfl 99 (.tmp 45) rfl b 0 rfl (WL (n : Int)) _ HR.out.range Try.underlying99 rfl (len138 _) ?_)
      | (refine wpList_store_mid rfl 99 (.tmp 4) (.tmp 46) rfl w.heap.size 0 (WL (n : Int)).toArray rfl rfl T1.out HI.out (WL_one _) ?_))
    go_meet
    exact ⟨rfl, R1, B1, L1⟩
  case rest =>
    obtain ⟨rfl, hR, hB, hL⟩ := hcut
    clear R1 B1 L1 T1 HI HR
    go_wp2_with (first
      | (refine wpList_load_mid rfl 99 (.tmp 4) rfl w.heap.size 0 rfl (WL (n : Int)) _ hR.out.range Try.underlying99 rfl (len138 _) ?_)
      | (go_at_call 50; fail))
    refine (c145 n _ HC.out).mono ?_
    rintro e w2 ⟨rfl, hb2⟩
    have B2 := Lib.hid (hB.out.trans (hb2.mono hB.out.size))
    have k3' : w2.cell? ⟨b, 43, none⟩ = some (.bool any) := (B2.out.cell (p := ⟨b, 43, none⟩) HB.out).trans k3
    have f3' : w2.frozen? ⟨b, 43, none⟩ = false := (B2.out.frozen (p := ⟨b, 43, none⟩) HB.out).trans f3
    clear k3 f3 k0 k1 k2 f0 f1 f2 hb2 hB hR hL k39 e0 W39
    generalize rnd n = r at *
    by_cases h0 : r = 0
    · subst h0
      have e1 : (FloatKind.f64.format.order 0 0 == some Ordering.eq) = true := by decide
      clear hr
      cases any
      · have F2 : Hid (RetF p (.returned (.float .f64 9223372036854775808))) := Lib.hid ⟨_, rfl, by unfold U; decide, by rw [HP.out, if_pos ⟨rfl, rfl⟩]; decide⟩
        clear HP
        go_wp2_with (go_at_call 51; refine (c131 _).mono ?_; rintro e w' ⟨rfl, rfl⟩)
        go_ret
        exact ⟨F2.out, B2.out⟩
      · have F2 : Hid (RetF p (.returned (.float .f64 0))) := Lib.hid ⟨_, rfl, by unfold U; decide, by rw [HP.out, if_neg (by decide)]; decide⟩
        clear HP
        go_wp2
        go_ret
        exact ⟨F2.out, B2.out⟩
    · have e1 := eq_zero_false r hr h0
      have F2 : Hid (RetF p (.returned (.float .f64 r))) := Lib.hid (by rw [HP.out, if_neg (fun h => h0 h.1)]; exact RetF_small r hr)
      clear hr h0 HP
      go_wp2
      go_ret
      exact ⟨F2.out, B2.out⟩
end Go.Proofs.Ytedkbjimofiphaa

namespace Go.Proofs.Ytedkbjimofiphaa
open Go.RowKit Fl
set_option maxRecDepth 100000 in
set_option maxHeartbeats 2000000 in
/-- less than nought -/
theorem c39m (b n : Nat) (any : Bool) (w : World) (hn : 0 < n) (hs : AccAt w b ⟨-(n : Int), false, false, false, any⟩) (hb : b < w.heap.size) (h2 : (n : Int) < B2559) :
    Calls Try.prog 23 #[.pointer (some ⟨b, 0, none⟩)] w fun e w' => RetF (pV ⟨-(n : Int), false, false, false, any⟩) e ∧ Below w.heap.size w w' := by
  have hpv : pV ⟨-(n : Int), false, false, false, any⟩ = -(rnd n : Int) - 1 := by
    unfold pV
    simp only [Bool.false_and, Bool.or_false, Bool.false_eq_true, if_false, Int.natAbs_neg, Int.natAbs_natCast]
    rw [if_pos (by omega)]
  rw [hpv]
  have HS := Lib.hid (sign_word (-(n : Int)) (by omega) (by unfold B2559 at *; have : (0:Int) ≤ 2 ^ 2559 := Int.le_of_lt (Int.pow_pos (by decide)); omega))
  have HC := Lib.hid (B2559_cap n (by omega))
  have HRR := Lib.hid (rnd_le_INF n)
  obtain ⟨hrow, k0, k1, k2, k3, f0, f1, f2, f3⟩ := hs
  simp only at hrow k0 k1 k2 k3
  obtain ⟨k39, _⟩ := hrow 39 (by omega)
  have HR := Lib.hid hrow
  have R1 := Lib.hid ((row_zero w).setAll (-(n : Int)))
  have T1 : Hid ((w.alloc (.cells (Array.replicate 40 (.int .u64 0)) 99)).there w.heap.size 0 (WL (-(n : Int))).toArray.size) := Lib.hid ((row_zero w).there (by simp [WL_len]))
  have hi : (Try.prog.info? 99).map (·.size) = some (WL (-(n : Int))).toArray.size := by rw [size138]; simp [WL_len]
  have HI := Lib.hid hi
  have hi2 : (Try.prog.info? 99).map (·.size) = some (WL (n : Int)).toArray.size := by rw [size138]; simp [WL_len]
  have HI2 := Lib.hid hi2
  have B1 := Lib.hid (below_setCells ((Below.refl w.heap.size w).alloc (Nat.le_refl _) (.cells (Array.replicate 40 (.int .u64 0)) 99)) (Nat.le_refl _) 0 (WL (-(n : Int))))
  have L1 : Hid (w.heap.size < ((w.alloc (.cells (Array.replicate 40 (.int .u64 0)) 99)).setCells w.heap.size 0 (WL (-(n : Int)))).heap.size) := Lib.hid (by rw [size_setCells]; simp)
  have HB := Lib.hid hb
  have e0 : (wd (-(n : Int)) 39 / 9223372036854775808 == 1) = true := by rw [HS.out]; exact decide_eq_true (by omega)
  have W39 : (0 : Int) ≤ wd (-(n : Int)) 39 := wd_nn _ _
  have H142 := Lib.hid (fun wx => c142 (-(n : Int)) wx)
  rw [Int.neg_neg] at H142
  clear h2 HS hi hi2 hpv hn
  generalize -(n : Int) = z at *
  generalize wd z 39 = q at *
  go_enter Try.func23, Try.ntmps23
  go_upto_region 8 with fail
  go_cut [4] (fun p wx => p = .pointer (some ⟨w.heap.size, 0, none⟩) ∧ Hid (Row wx w.heap.size (wd z)) ∧ Hid (Below w.heap.size w wx) ∧ Hid (w.heap.size < wx.heap.size))
  case first =>
    clear e0 W39 H142 HC HRR k39 k0 k1 k2 k3 f0 f1 f2 f3
    go_wp2_with (first
      | (refine wpList_load_mid rfl 99 (.tmp 45) rfl b 0 rfl (WL z) _ HR.out.range Try.underlying99 rfl (len138 _) ?_)
      | (refine wpList_store_mid rfl 99 (.tmp 4) (.tmp 46) rfl w.heap.size 0 (WL z).toArray rfl rfl T1.out HI.out (WL_one _) ?_))
    go_meet
    exact ⟨rfl, R1, B1, L1⟩
  case rest =>
    obtain ⟨rfl, hR, hB, hL⟩ := hcut
    clear R1 B1 L1 T1 HI HR k39 k0 k1 k2 k3 f0 f1 f2 f3
    go_upto_if 47 with fail
    go_cut [] (fun wx => Hid (Row wx w.heap.size (wd (n : Int))) ∧ Hid (Below w.heap.size w wx))
    case first =>
      go_wp2_with (first
        | (refine wpList_load_mid rfl 99 (.tmp 4) rfl w.heap.size 0 rfl (WL z) _ hR.out.range Try.underlying99 rfl (len138 _) ?_)
        | (go_at_call 46; fail))
      refine (H142.out _).mono ?_
      rintro e w2 ⟨rfl, hb2⟩
      have R3 := Lib.hid (hR.out.below hb2 hL.out)
      have B3 := Lib.hid (hB.out.trans (hb2.mono hB.out.size))
      have R4 := Lib.hid (R3.out.setAll (n : Int))
      have B4 := Lib.hid (below_setCells B3.out (Nat.le_refl _) 0 (WL (n : Int)))
      have T4 : Hid (w2.there w.heap.size 0 (WL (n : Int)).toArray.size) := Lib.hid (R3.out.there (by simp [WL_len]))
      clear hb2 hR hB hL
      go_wp2_with (refine wpList_store_mid rfl 99 (.tmp 4) (.tmp 49) rfl w.heap.size 0 (WL (n : Int)).toArray rfl rfl T4.out HI2.out (WL_one _) ?_)
      go_meet
      exact ⟨R4, B4⟩
    case rest =>
      obtain ⟨hR4, hB4⟩ := hcut
      clear hR hB hL HI2 H142
      go_wp2_with (first
        | (refine wpList_load_mid rfl 99 (.tmp 4) rfl w.heap.size 0 rfl (WL (n : Int)) _ hR4.out.range Try.underlying99 rfl (len138 _) ?_)
        | (go_at_call 50; fail))
      refine (c145 n _ HC.out).mono ?_
      rintro e w2 ⟨rfl, hb2⟩
      have B2 := Lib.hid (hB4.out.trans (hb2.mono hB4.out.size))
      clear hb2 hB4 hR4 e0 W39
      obtain ⟨r, hr⟩ : ∃ r, r = rnd n := ⟨_, rfl⟩
      rw [← hr] at HRR ⊢
      have HE := Lib.hid hr
      clear hr
      have hneg : ∀ (b : Nat) (w : World), (Op.unary .neg (.float .f64 b)).run Try.prog w = .ok (.float .f64 (Op.negFloat .f64 b)) w := fun _ _ => rfl
      have F1 : Hid (RetF (-(r : Int) - 1) (.returned (.float .f64 (Op.negFloat .f64 r)))) := Lib.hid ⟨_, rfl, U_ng (U_small HRR.out), by
        rw [show Op.negFloat .f64 r = ng r from rfl, pl_ng (U_small HRR.out), pl_small r HRR.out]
        have := HRR.out
        unfold INF at this
        unfold ngP; rw [if_neg (by omega)]; omega⟩
      go_wp2
      go_ret
      rw [← HE.out]
      exact ⟨F1.out, B2.out⟩
theorem c39 (b : Nat) (s : AS) (w : World) (hs : AccAt w b s) (hb : b < w.heap.size) (h1 : -B2559 < s.z) (h2 : s.z < B2559) :
    Calls Try.prog 23 #[.pointer (some ⟨b, 0, none⟩)] w fun e w' => RetF (pV s) e ∧ Below w.heap.size w w' := by
  obtain ⟨z, nan, pos, neg, any⟩ := s
  by_cases ha : (nan || (pos && neg)) = true
  · exact c39n b _ w hs ha
  · have ha := Bool.eq_false_iff.2 ha
    by_cases hc : (pos || neg) = true
    · exact c39i b _ w hs ha hc
    · have hc := Bool.eq_false_iff.2 hc
      rw [Bool.or_eq_false_iff] at ha hc
      obtain ⟨rfl, rfl⟩ := hc
      obtain ⟨rfl, _⟩ := ha
      simp only at h1 h2
      by_cases hz : z < 0
      · obtain ⟨n, rfl⟩ : ∃ n : Nat, z = -(n : Int) := ⟨z.natAbs, by omega⟩
        exact c39m b n any w (by omega) hs hb (by omega)
      · obtain ⟨n, rfl⟩ : ∃ n : Nat, z = (n : Int) := ⟨z.toNat, by omega⟩
        exact c39p b n any w hs hb h2
end Go.Proofs.Ytedkbjimofiphaa

namespace Go.Proofs.Ytedkbjimofiphaa
open Go.RowKit Fl
end Go.Proofs.Ytedkbjimofiphaa

namespace Go.Proofs.Ytedkbjimofiphaa
open Go.RowKit Fl
/-- a list of floats lies in block b from o on -/
structure FL (w : World) (b o : Nat) (l : List Nat) : Prop where
  cell : ∀ j x : Nat, l[j]? = some x → w.cell? ⟨b, o + j, none⟩ = some (.float .f64 x)
  u : ∀ j x : Nat, l[j]? = some x → U x
  lt : b < w.heap.size
theorem FL.below {w w' : World} {b o : Nat} {l : List Nat} (h : FL w b o l) (hb : Below w.heap.size w w') : FL w' b o l :=
  ⟨fun j x hj => (hb.cell (p := ⟨b, o + j, none⟩) h.lt).trans (h.cell j x hj), h.u, Nat.lt_of_lt_of_le h.lt hb.size⟩
end Go.Proofs.Ytedkbjimofiphaa

namespace Go.Proofs.Ytedkbjimofiphaa
open Go.RowKit Fl
def accS (l : List Nat) : AS := l.foldl addS AS.zero
theorem accS_take (l : List Nat) (k x : Nat) (h : l[k]? = some x) : accS (l.take (k + 1)) = addS (accS (l.take k)) x := by
  unfold accS
  rw [List.take_add_one, h, List.foldl_append]; rfl
def B2098 : Int := 2 ^ 2098
theorem pow2_le (k m : Nat) (h : k ≤ m) : (2 : Nat) ^ k ≤ 2 ^ m := Nat.pow_le_pow_right (by decide) h
theorem mul_pow_le (a m k j : Nat) (h1 : a ≤ 2 ^ m) (h2 : k ≤ j) : a * 2 ^ k ≤ 2 ^ (m + j) := by
  rw [Nat.pow_add]; exact Nat.mul_le_mul h1 (pow2_le _ _ h2)
theorem cast_le (a m k j t : Nat) (h1 : a ≤ 2 ^ m) (h2 : k ≤ j) (ht : m + j = t) : ((a * 2 ^ k : Nat) : Int) ≤ (2 : Int) ^ t := by
  subst ht
  have := Int.ofNat_le.2 (mul_pow_le a m k j h1 h2)
  rw [Int.natCast_pow] at this
  exact this
theorem ipow_le (k m t : Nat) (h : k + m ≤ t) : (2 : Int) ^ k * 2 ^ m ≤ 2 ^ t := by
  rw [← Int.pow_add]
  have h2 := Int.ofNat_le.2 (pow2_le (k + m) t h)
  rw [Int.natCast_pow, Int.natCast_pow] at h2
  exact h2
theorem un_bound (x : Nat) (h : fin x = true) : -B2098 ≤ un x ∧ un x ≤ B2098 := by
  have hv : ((val 52 (rg x) : Nat) : Int) ≤ B2098 := by
    rw [val_mm]
    have h1 := mM_lt x
    exact cast_le (mM x) 53 (mE x) 2045 2098 (by omega) (mE_le x h) rfl
  have h0 : (0 : Int) ≤ B2098 := Int.le_trans (Int.natCast_nonneg _) hv
  unfold un
  split <;> omega
theorem acc_bound (l : List Nat) : ∀ s : AS, s.z - l.length * B2098 ≤ (l.foldl addS s).z ∧ (l.foldl addS s).z ≤ s.z + l.length * B2098 := by
  induction l with
  | nil => intro s; simp
  | cons x r ih =>
    intro s
    have h0 : (0 : Int) ≤ B2098 := by unfold B2098; exact Int.le_of_lt (Int.pow_pos (by decide))
    have h := ih (addS s x)
    have hz : s.z - B2098 ≤ (addS s x).z ∧ (addS s x).z ≤ s.z + B2098 := by
      unfold addS
      by_cases hf : fin x = true
      · have := un_bound x hf
        simp only [hf, if_true]; omega
      · simp only [hf, if_false, Bool.false_eq_true]; omega
    rw [List.foldl_cons, List.length_cons, Int.natCast_add, Int.add_mul]
    omega
theorem acc_small (l : List Nat) (hl : l.length < 4611686018427387904) : -B2559 < (accS l).z ∧ (accS l).z < B2559 := by
  have h := acc_bound l AS.zero
  have h0 : (0 : Int) < B2098 := by unfold B2098; exact Int.pow_pos (by decide)
  have hb : (4611686018427387904 : Int) * B2098 ≤ B2559 := by
    rw [show (4611686018427387904 : Int) = 2 ^ 62 by rfl]
    exact ipow_le 62 2098 2559 (by decide)
  have hm : (l.length : Int) * B2098 < 4611686018427387904 * B2098 := Int.mul_lt_mul_of_pos_right (by omega) h0
  unfold accS
  have : AS.zero.z = 0 := rfl
  omega
set_option maxRecDepth 100000 in
set_option maxHeartbeats 1000000 in
theorem c23 (b o c : Nat) (l : List Nat) (w : World) (h : FL w b o l) (hl : l.length < 4611686018427387904) :
    Calls Try.prog 43 #[.slice (some ⟨b, o, none⟩) l.length c] w fun e w' => RetF (pV (accS l)) e ∧ Below w.heap.size w w' := by
  have H := Lib.hid h
  have HZ := Lib.hid (acc_small l hl)
  go_enter Try.func43, Try.ntmps43
  go_wp2_with (go_at_call 19; fail)
  refine (c35 _).mono ?_
  rintro e w1 ⟨rfl, ha, hb1, hs1⟩
  have A0 := Lib.hid ha
  have B0 := Lib.hid hb1
  have S0 := Lib.hid hs1
  clear ha hb1 hs1
  go_wp2_with fail
  go_loopw [9] (fun i wx => ∃ k : Nat, k ≤ l.length ∧ i = .int .i64 k ∧ Hid (AccAt wx w.heap.size (accS (l.take k))) ∧ Hid (Below w.heap.size w wx) ∧ Hid (w.heap.size < wx.heap.size)) (fun i _ => l.length - (intOf i).toNat)
  case atStart => exact ⟨0, by omega, rfl, A0, B0, S0⟩
  case round =>
    obtain ⟨k, hk, rfl, hA, hB, hS⟩ := hrel
    by_cases hlt : k < l.length
    · have hki : (k : Int) < (l.length : Int) := by omega
      obtain ⟨x, hx⟩ : ∃ x, l[k]? = some x := ⟨l[k], List.getElem?_eq_getElem hlt⟩
      have HX := Lib.hid hx
      have HLT := Lib.hid hlt
      have HU := Lib.hid (H.out.u k x hx)
      have kc := (H.out.below hB.out).cell k x hx
      clear hx h hlt A0 B0 S0
      go_wp2_with (go_at_call 21; fail)
      refine (c37 _ _ x _ HU.out hA.out hS.out).mono ?_
      rintro e w2 ⟨rfl, ha2, ho2⟩
      have A2 : Hid (AccAt w2 w.heap.size (accS (l.take (k + 1)))) := Lib.hid (by rw [accS_take l k x HX.out]; exact ha2)
      have B2 := Lib.hid (ho2.below (Nat.le_refl _) (Nat.le_of_lt hS.out) hB.out)
      have S2 := Lib.hid (Nat.lt_of_lt_of_le hS.out ho2.size)
      clear ha2 ho2 kc
      go_wp2
      go_roundw
      case rel => exact ⟨k + 1, by have := HLT.out; omega, by go_num, A2, B2, S2⟩
      case measure => have := HLT.out; simp [intOf]; omega
    · have hki : ¬ (k : Int) < (l.length : Int) := by omega
      have hkl : k = l.length := by omega
      have hA2 : Hid (AccAt _ w.heap.size (accS l)) := Lib.hid (by have := hA.out; rw [hkl, List.take_length] at this; exact this)
      clear hlt hkl h A0 B0 S0 hA
      go_wp2_with (go_at_call 23; fail)
      refine (c39 _ _ _ hA2.out hS.out HZ.out.1 HZ.out.2).mono ?_
      rintro e w2 ⟨⟨r, rfl, hr⟩, hb2⟩
      have HB := Lib.hid (hB.out.trans (hb2.mono hB.out.size))
      have HR := Lib.hid hr
      clear hb2 hr
      go_wp2
      go_ret
      exact ⟨⟨r, rfl, HR.out⟩, HB.out⟩
end Go.Proofs.Ytedkbjimofiphaa

namespace Go.Proofs.Ytedkbjimofiphaa
open Go.RowKit Fl
set_option maxRecDepth 100000 in
theorem c24 (x y : Nat) (w : World) (hx : U x) (hy : U y) : Calls Try.prog 22 #[.float .f64 x, .float .f64 y] w fun e w' => e = .returned (.bool (pl x == pl y)) ∧ w = w' := by
  have h := same_bits hx hy
  have e1 := neq_self x hx
  have e2 := neq_self y hy
  have e3 : ((x : Int) == (y : Int)) = (x == y) := by rw [Bool.eq_iff_iff]; simp; omega
  rw [← h]
  clear h
  cases h1 : (x == y) <;> cases h2 : isN x <;> cases h3 : isN y
  all_goals
    rw [h2] at e1
    rw [h3] at e2
    rw [h1] at e3
    clear h1 h2 h3
    go_enter Try.func22, Try.ntmps22
    go_wp2
    go_ret
    exact ⟨rfl, rfl⟩
end Go.Proofs.Ytedkbjimofiphaa

namespace Go.Proofs.Ytedkbjimofiphaa
open Go.RowKit Fl
end Go.Proofs.Ytedkbjimofiphaa

namespace Go.Proofs.Ytedkbjimofiphaa
open Go.RowKit Fl
set_option maxRecDepth 100000 in
set_option maxHeartbeats 1000000 in
theorem c23z (A : Option Addr) (c : Nat) (w : World) : Calls Try.prog 43 #[.slice A 0 c] w fun e w' => RetF (pV (accS [])) e ∧ Below w.heap.size w w' := by
  have HZ := Lib.hid (acc_small [] (by simp))
  go_enter Try.func43, Try.ntmps43
  go_wp2_with (go_at_call 19; fail)
  refine (c35 _).mono ?_
  rintro e w1 ⟨rfl, ha, hb1, hs1⟩
  have A0 : Hid (AccAt w1 w.heap.size (accS [])) := Lib.hid ha
  have B0 := Lib.hid hb1
  have S0 := Lib.hid hs1
  clear ha hb1 hs1
  go_wp2_with fail
  go_loopw [9] (fun i wx => i = .int .i64 0 ∧ Hid (AccAt wx w.heap.size (accS [])) ∧ Hid (Below w.heap.size w wx) ∧ Hid (w.heap.size < wx.heap.size)) (fun i _ => 1 - (intOf i).toNat)
  case atStart => exact ⟨rfl, A0, B0, S0⟩
  case round =>
    obtain ⟨rfl, hA, hB, hS⟩ := hrel
    clear A0 B0 S0
    go_wp2_with (go_at_call 23; fail)
    refine (c39 _ _ _ hA.out hS.out HZ.out.1 HZ.out.2).mono ?_
    rintro e w2 ⟨⟨r, rfl, hr⟩, hb2⟩
    have HB := Lib.hid (hB.out.trans (hb2.mono hB.out.size))
    have HR := Lib.hid hr
    clear hb2 hr
    go_wp2
    go_ret
    exact ⟨⟨r, rfl, HR.out⟩, HB.out⟩
end Go.Proofs.Ytedkbjimofiphaa

namespace Go.Proofs.Ytedkbjimofiphaa
open Go.RowKit Fl
end Go.Proofs.Ytedkbjimofiphaa

namespace Go.Proofs.Ytedkbjimofiphaa
open Go.RowKit Fl
end Go.Proofs.Ytedkbjimofiphaa

namespace Go.Proofs.Ytedkbjimofiphaa
open Go.RowKit Fl
/-- Held's two variables lie in blocks b and b + 1 -/
structure HeldAt (w : World) (b : Nat) (s c : Nat) : Prop where
  k1 : w.cell? ⟨b, 0, none⟩ = some (.float .f64 s)
  k2 : w.cell? ⟨b + 1, 0, none⟩ = some (.float .f64 c)
  f1 : w.frozen? ⟨b, 0, none⟩ = false
  f2 : w.frozen? ⟨b + 1, 0, none⟩ = false
theorem HeldAt.step {w : World} {b s c : Nat} (h : HeldAt w b s c) (n s' c' : Nat) :
    HeldAt (((w.drewN n).setCell ⟨b + 1, 0, none⟩ (.float .f64 c')).setCell ⟨b, 0, none⟩ (.float .f64 s')) b s' c' := by
  have hne : (⟨b, 0, none⟩ : Addr) ≠ ⟨b + 1, 0, none⟩ := by intro h; injection h with h; omega
  have k1 : (w.drewN n).cell? ⟨b, 0, none⟩ = some (.float .f64 s) := h.k1
  have k2 : (w.drewN n).cell? ⟨b + 1, 0, none⟩ = some (.float .f64 c) := h.k2
  have m1 : ((w.drewN n).setCell ⟨b + 1, 0, none⟩ (.float .f64 c')).cell? ⟨b, 0, none⟩ = some (.float .f64 s) := (World.cell?_setCell_other _ _ _ _ (fun e => hne (by injection e with e; first | exact absurd e (by omega) | (subst_vars; omega)))).trans k1
  refine ⟨World.cell?_setCell_same _ _ _ m1, ?_, ?_, ?_⟩
  · exact (World.cell?_setCell_other _ _ _ _ (fun e => by injection e with e; omega)).trans (World.cell?_setCell_same _ _ _ k2)
  · exact (World.frozen?_setCell ..).trans ((World.frozen?_setCell ..).trans h.f1)
  · exact (World.frozen?_setCell ..).trans ((World.frozen?_setCell ..).trans h.f2)
end Go.Proofs.Ytedkbjimofiphaa

namespace Go.Proofs.Ytedkbjimofiphaa.Fl
open Ieee
end Go.Proofs.Ytedkbjimofiphaa.Fl

namespace Go.Proofs.Ytedkbjimofiphaa
open Go.RowKit Fl
end Go.Proofs.Ytedkbjimofiphaa

namespace Go.Proofs.Ytedkbjimofiphaa
open Go.RowKit Fl
/-! ### whole numbers -/
/-! ### what an Acc tells of numbers that are -/
def anyS (l : List Nat) : Bool := l.any fun x => decide (x ≠ 9223372036854775808)
def sumU (l : List Nat) : Int := (l.map fun x => if fin x then un x else 0).sum
theorem accS_all (l : List Nat) : ∀ s : AS, l.foldl addS s = ⟨s.z + sumU l, s.nan || l.any isN, s.pos || l.any (fun x => decide (x = 9218868437227405312)), s.neg || l.any (fun x => decide (x = 18442240474082181120)), s.any || anyS l⟩ := by
  induction l with
  | nil => intro s; simp [sumU, anyS]
  | cons x r ih =>
    intro s
    rw [List.foldl_cons, ih]
    unfold addS sumU anyS
    simp only [List.map_cons, List.sum_cons, List.any_cons, Bool.or_assoc]
    by_cases h : fin x = true
    · simp only [h, if_true]; rw [Int.add_assoc]
    · simp only [h, if_false, Bool.false_eq_true, Int.zero_add]
theorem accS_eq (l : List Nat) : accS l = ⟨sumU l, l.any isN, l.any (fun x => decide (x = 9218868437227405312)), l.any (fun x => decide (x = 18442240474082181120)), anyS l⟩ := by
  unfold accS; rw [accS_all]; simp [AS.zero]
end Go.Proofs.Ytedkbjimofiphaa

namespace Go.Proofs.Ytedkbjimofiphaa
open Go.RowKit Fl
end Go.Proofs.Ytedkbjimofiphaa

namespace Go.Proofs.Ytedkbjimofiphaa
open Go.RowKit Fl
end Go.Proofs.Ytedkbjimofiphaa

namespace Go.Proofs.Ytedkbjimofiphaa
open Go.RowKit Fl
theorem FL.take {w : World} {b o : Nat} {l : List Nat} (h : FL w b o l) (k : Nat) : FL w b o (l.take k) :=
  ⟨fun j x hj => h.cell j x (by rw [List.getElem?_take] at hj; split at hj; exact hj; cases hj), fun j x hj => h.u j x (by rw [List.getElem?_take] at hj; split at hj; exact hj; cases hj), h.lt⟩
theorem FL.drop {w : World} {b o : Nat} {l : List Nat} (h : FL w b o l) (k : Nat) : FL w b (o + k) (l.drop k) :=
  ⟨fun j x hj => by rw [Nat.add_assoc]; exact h.cell (k + j) x (by rw [List.getElem?_drop] at hj; exact hj), fun j x hj => h.u (k + j) x (by rw [List.getElem?_drop] at hj; exact hj), h.lt⟩
end Go.Proofs.Ytedkbjimofiphaa

namespace Go.Proofs.Ytedkbjimofiphaa
open Go.RowKit Fl
end Go.Proofs.Ytedkbjimofiphaa
