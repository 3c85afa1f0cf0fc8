/- An Acc: Value. An Acc: Value, less than nought. An Acc: Join. Plain, and a list of floats in memory. Exact. Same, Two. Two. Exact of no numbers. Held: the closure. Held. Held. Plain laws: what rounding loses is a number. No program in sight. What + and - do, told by units: plain laws. -/
import Derived.Test.YtedkbjimofiphaaMgAccF
import Derived.Test.YtedkbjimofiphaaMgFl
import Derived.Test.YtedkbjimofiphaaMgAlive
import Derived.Test.YtedkbjimofiphaaMgJoin
import Derived.Test.YtedkbjimofiphaaF32
namespace Go.Proofs.Ytedkbjimofiphaa
open Go.RowKit Fl

/-- the place of what an Acc tells -/
def pV (s : AS) : Int :=
  if s.nan || (s.pos && s.neg) then 9223372036854775807 else if s.pos then 9218868437227405312 else if s.neg then -9218868437227405313
  else if s.z < 0 then -(rnd s.z.natAbs : Int) - 1 else if rnd s.z.natAbs = 0 ∧ s.any = false then -1 else (rnd s.z.natAbs : Int)
theorem c144 (w : World) : Calls Try.prog 48 #[] w fun e w' => e = .returned (.float .f64 QN) ∧ w = w' := by
  go_enter Try.func48, Try.ntmps48
  go_wp2_with (go_at_call 70; refine (c135 _).mono ?_; rintro e w' ⟨rfl, rfl⟩)
  go_ret
  exact ⟨rfl, rfl⟩
theorem c131 (w : World) : Calls Try.prog 51 #[] w fun e w' => e = .returned (.float .f64 9223372036854775808) ∧ w = w' := by
  go_enter Try.func51, Try.ntmps51
  go_wp2_with (go_at_call 73; refine (c175 0 13830554455654793216 _ (by unfold U; decide) (by unfold U; decide)).mono ?_; rintro e w' ⟨rfl, rfl⟩)
  go_ret
  exact ⟨ret_float (by decide), rfl⟩
def B2559 : Int := 2 ^ 2559
theorem sign_word (z : Int) (h1 : -B2559 ≤ z) (h2 : z < B2559) : (wd z 39 / 9223372036854775808 == 1) = decide (z < 0) := by
  unfold wd
  rw [show 64 * 39 = 2496 by rfl]
  have hP : B2559 = 9223372036854775808 * (2 : Int) ^ 2496 := by unfold B2559; rw [show (9223372036854775808 : Int) = 2 ^ 63 by rfl, ← Int.pow_add]
  have hp : (0 : Int) < 2 ^ 2496 := Int.pow_pos (by decide)
  rw [hP] at h1 h2
  generalize (2 : Int) ^ 2496 = p at *
  have hq2 : z / p < 9223372036854775808 := Int.ediv_lt_of_lt_mul hp h2
  have hq1 : -9223372036854775808 ≤ z / p := Int.le_ediv_of_mul_le hp (by omega)
  have hs : z / p < 0 ↔ z < 0 := ⟨fun h => by have := fun h0 : 0 ≤ z => Int.ediv_nonneg h0 (Int.le_of_lt hp); omega, fun h => Int.ediv_lt_of_lt_mul hp (by omega)⟩
  generalize z / p = q at *
  by_cases h0 : z < 0
  · have := hs.2 h0
    rw [decide_eq_true h0]; simp; omega
  · have : ¬ q < 0 := fun h => h0 (hs.1 h)
    rw [decide_eq_false h0]; simp; omega
theorem B2559_cap (n : Nat) (h : (n : Int) ≤ B2559) : n < 2 ^ (64 * CAP) := by
  have h2 : B2559 = ((2 ^ 2559 : Nat) : Int) := by unfold B2559; exact (Int.natCast_pow 2 2559).symm
  have h3 : n ≤ 2 ^ 2559 := by rw [h2] at h; exact Int.ofNat_le.1 h
  have h4 : ∀ k m : Nat, k < m → 2 ^ k < 2 ^ m := fun k m h => Nat.pow_lt_pow_right (by decide) h
  exact Nat.lt_of_le_of_lt h3 (h4 2559 (64 * CAP) (by rw [CAP_eq]; decide))
theorem wd_nn (z : Int) (i : Nat) : 0 ≤ wd z i := by unfold wd; exact Int.emod_nonneg _ (by decide)

theorem AS.boolsN (s : AS) (h : (s.nan || (s.pos && s.neg)) = true) : pV s = 9223372036854775807 := by unfold pV; rw [if_pos h]
set_option maxRecDepth 100000 in
set_option maxHeartbeats 1000000 in
theorem c39n (b : Nat) (s : AS) (w : World) (hs : AccAt w b s) (h : (s.nan || (s.pos && s.neg)) = true) :
    Calls Try.prog 23 #[.pointer (some ⟨b, 0, none⟩)] w fun e w' => RetF (pV s) e ∧ Below w.heap.size w w' := by
  rw [s.boolsN h]
  obtain ⟨_, k0, k1, k2, k3, f0, f1, f2, f3⟩ := hs
  obtain ⟨z, nan, pos, neg, any⟩ := s
  simp only at h k0 k1 k2 k3
  have hq : RetF 9223372036854775807 (.returned (.float .f64 QN)) := ⟨QN, rfl, by unfold U QN; decide, by decide⟩
  have H := Lib.hid hq
  clear hq
  cases nan <;> cases pos <;> cases neg <;> first | exact absurd h (by decide) | skip
  all_goals
    clear h
    go_enter Try.func23, Try.ntmps23
    go_wp2_with (go_at_call 48; refine (c144 _).mono ?_; rintro e w' ⟨rfl, rfl⟩)
    go_ret
    exact ⟨H.out, Below.refl _ _⟩
set_option maxRecDepth 100000 in
set_option maxHeartbeats 1000000 in
theorem c39i (b : Nat) (s : AS) (w : World) (hs : AccAt w b s) (h : (s.nan || (s.pos && s.neg)) = false) (h2 : (s.pos || s.neg) = true) :
    Calls Try.prog 23 #[.pointer (some ⟨b, 0, none⟩)] w fun e w' => RetF (pV s) e ∧ Below w.heap.size w w' := by
  obtain ⟨_, k0, k1, k2, k3, f0, f1, f2, f3⟩ := hs
  obtain ⟨z, nan, pos, neg, any⟩ := s
  simp only at h h2 k0 k1 k2 k3
  have hp : RetF 9218868437227405312 (.returned (.float .f64 9218868437227405312)) := ⟨_, rfl, by unfold U; decide, by decide⟩
  have hn : RetF (-9218868437227405313) (.returned (.float .f64 18442240474082181120)) := ⟨_, rfl, by unfold U; decide, by decide⟩
  have HP := Lib.hid hp
  have HN := Lib.hid hn
  clear hp hn
  cases nan <;> cases pos <;> cases neg <;> first | exact absurd h (by decide) | exact absurd h2 (by decide) | skip
  all_goals
    go_enter Try.func23, Try.ntmps23
    go_wp2_with (first | (go_at_call 49; refine (c137p _).mono ?_; rintro e w' ⟨rfl, rfl⟩) | (go_at_call 49; refine (c137n _).mono ?_; rintro e w' ⟨rfl, rfl⟩))
    go_ret
    first
    | exact ⟨HP.out, Below.refl _ _⟩
    | exact ⟨HN.out, Below.refl _ _⟩

theorem pl_small (r : Nat) (h : r ≤ INF) : pl r = (r : Int) := by
  have := pl_word false r h
  rw [if_neg (by decide)] at this
  exact this
theorem U_small {r : Nat} (h : r ≤ INF) : U r := by unfold U; unfold INF at h; omega
theorem eq_zero_false (r : Nat) (h : r ≤ INF) (h0 : r ≠ 0) : (FloatKind.f64.format.order r 0 == some Ordering.eq) = false := by
  rw [f_eq r 0 (U_small h) (by unfold U; decide), pl_small r h, pl_small 0 (by unfold INF; omega)]
  unfold feqP zk
  rw [if_neg (by omega), if_neg (by omega), decide_eq_false (show ¬ ((r : Int) = ((0 : Nat) : Int)) by omega), Bool.and_false]
theorem RetF_small (r : Nat) (h : r ≤ INF) : RetF (r : Int) (.returned (.float .f64 r)) := ⟨r, rfl, U_small h, pl_small r h⟩
theorem rnd_le_INF (n : Nat) : rnd n ≤ INF := by unfold rnd; exact Nat.min_le_right _ _
set_option maxRecDepth 100000 in
set_option maxHeartbeats 2000000 in
/-- not less than nought -/
theorem c39p (b n : Nat) (any : Bool) (w : World) (hs : AccAt w b ⟨(n : Int), false, false, false, any⟩) (hb : b < w.heap.size) (h2 : (n : Int) < B2559) :
    Calls Try.prog 23 #[.pointer (some ⟨b, 0, none⟩)] w fun e w' => RetF (pV ⟨(n : Int), false, false, false, any⟩) e ∧ Below w.heap.size w w' := by
  have hpv : pV ⟨(n : Int), false, false, false, any⟩ = if rnd n = 0 ∧ any = false then -1 else (rnd n : Int) := by
    unfold pV
    simp only [Bool.false_and, Bool.or_false, Bool.false_eq_true, if_false, Int.natAbs_natCast]
    rw [if_neg (by omega)]
  rw [hpv]
  obtain ⟨p, hp⟩ : ∃ p : Int, p = if rnd n = 0 ∧ any = false then -1 else (rnd n : Int) := ⟨_, rfl⟩
  rw [← hp]
  have HP := Lib.hid hp
  clear hp
  have HS := Lib.hid (sign_word (n : Int) (by unfold B2559 at *; have : (0:Int) ≤ 2 ^ 2559 := Int.le_of_lt (Int.pow_pos (by decide)); omega) h2)
  have HC := Lib.hid (B2559_cap n (by omega))
  have hr := rnd_le_INF n
  obtain ⟨hrow, k0, k1, k2, k3, f0, f1, f2, f3⟩ := hs
  simp only at hrow k0 k1 k2 k3
  obtain ⟨k39, _⟩ := hrow 39 (by omega)
  have HR := Lib.hid hrow
  have R1 := Lib.hid ((row_zero w).setAll (n : Int))
  have T1 : Hid ((w.alloc (.cells (Array.replicate 40 (.int .u64 0)) 99)).there w.heap.size 0 (WL (n : Int)).toArray.size) := Lib.hid ((row_zero w).there (by simp [WL_len]))
  have hi : (Try.prog.info? 99).map (·.size) = some (WL (n : Int)).toArray.size := by rw [size138]; simp [WL_len]
  have HI := Lib.hid hi
  have B1 := Lib.hid (below_setCells ((Below.refl w.heap.size w).alloc (Nat.le_refl _) (.cells (Array.replicate 40 (.int .u64 0)) 99)) (Nat.le_refl _) 0 (WL (n : Int)))
  have L1 : Hid (w.heap.size < ((w.alloc (.cells (Array.replicate 40 (.int .u64 0)) 99)).setCells w.heap.size 0 (WL (n : Int))).heap.size) := Lib.hid (by rw [size_setCells]; simp)
  have HB := Lib.hid hb
  have e0 : (wd (n : Int) 39 / 9223372036854775808 == 1) = false := by rw [HS.out]; exact decide_eq_false (by omega)
  clear h2 HS hi hpv
  have W39 : (0 : Int) ≤ wd (n : Int) 39 := wd_nn _ _
  generalize wd (n : Int) 39 = q at *
  go_enter Try.func23, Try.ntmps23
  go_upto_region 8 with fail
  go_cut [4] (fun p wx => p = .pointer (some ⟨w.heap.size, 0, none⟩) ∧ Hid (Row wx w.heap.size (wd (n : Int))) ∧ Hid (Below w.heap.size w wx) ∧ Hid (w.heap.size < wx.heap.size))
  case first =>
    go_wp2_with (first
      | (refine wpList_load_mid rfl 99 (.tmp 45) rfl b 0 rfl (WL (n : Int)) _ HR.out.range Try.underlying99 rfl (len138 _) ?_)
      | (refine wpList_store_mid rfl 99 (.tmp 4) (.tmp 46) rfl w.heap.size 0 (WL (n : Int)).toArray rfl rfl T1.out HI.out (WL_one _) ?_))
    go_meet
    exact ⟨rfl, R1, B1, L1⟩
  case rest =>
    obtain ⟨rfl, hR, hB, hL⟩ := hcut
    clear R1 B1 L1 T1 HI HR
    go_wp2_with (first
      | (refine wpList_load_mid rfl 99 (.tmp 4) rfl w.heap.size 0 rfl (WL (n : Int)) _ hR.out.range Try.underlying99 rfl (len138 _) ?_)
      | (go_at_call 50; fail))
    refine (c145 n _ HC.out).mono ?_
    rintro e w2 ⟨rfl, hb2⟩
    have B2 := Lib.hid (hB.out.trans (hb2.mono hB.out.size))
    have k3' : w2.cell? ⟨b, 43, none⟩ = some (.bool any) := (B2.out.cell (p := ⟨b, 43, none⟩) HB.out).trans k3
    have f3' : w2.frozen? ⟨b, 43, none⟩ = false := (B2.out.frozen (p := ⟨b, 43, none⟩) HB.out).trans f3
    clear k3 f3 k0 k1 k2 f0 f1 f2 hb2 hB hR hL k39 e0 W39
    generalize rnd n = r at *
    by_cases h0 : r = 0
    · subst h0
      have e1 : (FloatKind.f64.format.order 0 0 == some Ordering.eq) = true := by decide
      clear hr
      cases any
      · have F2 : Hid (RetF p (.returned (.float .f64 9223372036854775808))) := Lib.hid ⟨_, rfl, by unfold U; decide, by rw [HP.out, if_pos ⟨rfl, rfl⟩]; decide⟩
        clear HP
        go_wp2_with (go_at_call 51; refine (c131 _).mono ?_; rintro e w' ⟨rfl, rfl⟩)
        go_ret
        exact ⟨F2.out, B2.out⟩
      · have F2 : Hid (RetF p (.returned (.float .f64 0))) := Lib.hid ⟨_, rfl, by unfold U; decide, by rw [HP.out, if_neg (by decide)]; decide⟩
        clear HP
        go_wp2
        go_ret
        exact ⟨F2.out, B2.out⟩
    · have e1 := eq_zero_false r hr h0
      have F2 : Hid (RetF p (.returned (.float .f64 r))) := Lib.hid (by rw [HP.out, if_neg (fun h => h0 h.1)]; exact RetF_small r hr)
      clear hr h0 HP
      go_wp2
      go_ret
      exact ⟨F2.out, B2.out⟩

end Go.Proofs.Ytedkbjimofiphaa

namespace Go.Proofs.Ytedkbjimofiphaa
open Go.RowKit Fl

set_option maxRecDepth 100000 in
set_option maxHeartbeats 2000000 in
/-- less than nought -/
theorem c39m (b n : Nat) (any : Bool) (w : World) (hn : 0 < n) (hs : AccAt w b ⟨-(n : Int), false, false, false, any⟩) (hb : b < w.heap.size) (h2 : (n : Int) < B2559) :
    Calls Try.prog 23 #[.pointer (some ⟨b, 0, none⟩)] w fun e w' => RetF (pV ⟨-(n : Int), false, false, false, any⟩) e ∧ Below w.heap.size w w' := by
  have hpv : pV ⟨-(n : Int), false, false, false, any⟩ = -(rnd n : Int) - 1 := by
    unfold pV
    simp only [Bool.false_and, Bool.or_false, Bool.false_eq_true, if_false, Int.natAbs_neg, Int.natAbs_natCast]
    rw [if_pos (by omega)]
  rw [hpv]
  have HS := Lib.hid (sign_word (-(n : Int)) (by omega) (by unfold B2559 at *; have : (0:Int) ≤ 2 ^ 2559 := Int.le_of_lt (Int.pow_pos (by decide)); omega))
  have HC := Lib.hid (B2559_cap n (by omega))
  have HRR := Lib.hid (rnd_le_INF n)
  obtain ⟨hrow, k0, k1, k2, k3, f0, f1, f2, f3⟩ := hs
  simp only at hrow k0 k1 k2 k3
  obtain ⟨k39, _⟩ := hrow 39 (by omega)
  have HR := Lib.hid hrow
  have R1 := Lib.hid ((row_zero w).setAll (-(n : Int)))
  have T1 : Hid ((w.alloc (.cells (Array.replicate 40 (.int .u64 0)) 99)).there w.heap.size 0 (WL (-(n : Int))).toArray.size) := Lib.hid ((row_zero w).there (by simp [WL_len]))
  have hi : (Try.prog.info? 99).map (·.size) = some (WL (-(n : Int))).toArray.size := by rw [size138]; simp [WL_len]
  have HI := Lib.hid hi
  have hi2 : (Try.prog.info? 99).map (·.size) = some (WL (n : Int)).toArray.size := by rw [size138]; simp [WL_len]
  have HI2 := Lib.hid hi2
  have B1 := Lib.hid (below_setCells ((Below.refl w.heap.size w).alloc (Nat.le_refl _) (.cells (Array.replicate 40 (.int .u64 0)) 99)) (Nat.le_refl _) 0 (WL (-(n : Int))))
  have L1 : Hid (w.heap.size < ((w.alloc (.cells (Array.replicate 40 (.int .u64 0)) 99)).setCells w.heap.size 0 (WL (-(n : Int)))).heap.size) := Lib.hid (by rw [size_setCells]; simp)
  have HB := Lib.hid hb
  have e0 : (wd (-(n : Int)) 39 / 9223372036854775808 == 1) = true := by rw [HS.out]; exact decide_eq_true (by omega)
  have W39 : (0 : Int) ≤ wd (-(n : Int)) 39 := wd_nn _ _
  have H142 := Lib.hid (fun wx => c142 (-(n : Int)) wx)
  rw [Int.neg_neg] at H142
  clear h2 HS hi hi2 hpv hn
  generalize -(n : Int) = z at *
  generalize wd z 39 = q at *
  go_enter Try.func23, Try.ntmps23
  go_upto_region 8 with fail
  go_cut [4] (fun p wx => p = .pointer (some ⟨w.heap.size, 0, none⟩) ∧ Hid (Row wx w.heap.size (wd z)) ∧ Hid (Below w.heap.size w wx) ∧ Hid (w.heap.size < wx.heap.size))
  case first =>
    clear e0 W39 H142 HC HRR k39 k0 k1 k2 k3 f0 f1 f2 f3
    go_wp2_with (first
      | (refine wpList_load_mid rfl 99 (.tmp 45) rfl b 0 rfl (WL z) _ HR.out.range Try.underlying99 rfl (len138 _) ?_)
      | (refine wpList_store_mid rfl 99 (.tmp 4) (.tmp 46) rfl w.heap.size 0 (WL z).toArray rfl rfl T1.out HI.out (WL_one _) ?_))
    go_meet
    exact ⟨rfl, R1, B1, L1⟩
  case rest =>
    obtain ⟨rfl, hR, hB, hL⟩ := hcut
    clear R1 B1 L1 T1 HI HR k39 k0 k1 k2 k3 f0 f1 f2 f3
    go_upto_if 47 with fail
    go_cut [] (fun wx => Hid (Row wx w.heap.size (wd (n : Int))) ∧ Hid (Below w.heap.size w wx))
    case first =>
      go_wp2_with (first
        | (refine wpList_load_mid rfl 99 (.tmp 4) rfl w.heap.size 0 rfl (WL z) _ hR.out.range Try.underlying99 rfl (len138 _) ?_)
        | (go_at_call 46; fail))
      refine (H142.out _).mono ?_
      rintro e w2 ⟨rfl, hb2⟩
      have R3 := Lib.hid (hR.out.below hb2 hL.out)
      have B3 := Lib.hid (hB.out.trans (hb2.mono hB.out.size))
      have R4 := Lib.hid (R3.out.setAll (n : Int))
      have B4 := Lib.hid (below_setCells B3.out (Nat.le_refl _) 0 (WL (n : Int)))
      have T4 : Hid (w2.there w.heap.size 0 (WL (n : Int)).toArray.size) := Lib.hid (R3.out.there (by simp [WL_len]))
      clear hb2 hR hB hL
      go_wp2_with (refine wpList_store_mid rfl 99 (.tmp 4) (.tmp 49) rfl w.heap.size 0 (WL (n : Int)).toArray rfl rfl T4.out HI2.out (WL_one _) ?_)
      go_meet
      exact ⟨R4, B4⟩
    case rest =>
      obtain ⟨hR4, hB4⟩ := hcut
      clear hR hB hL HI2 H142
      go_wp2_with (first
        | (refine wpList_load_mid rfl 99 (.tmp 4) rfl w.heap.size 0 rfl (WL (n : Int)) _ hR4.out.range Try.underlying99 rfl (len138 _) ?_)
        | (go_at_call 50; fail))
      refine (c145 n _ HC.out).mono ?_
      rintro e w2 ⟨rfl, hb2⟩
      have B2 := Lib.hid (hB4.out.trans (hb2.mono hB4.out.size))
      clear hb2 hB4 hR4 e0 W39
      obtain ⟨r, hr⟩ : ∃ r, r = rnd n := ⟨_, rfl⟩
      rw [← hr] at HRR ⊢
      have HE := Lib.hid hr
      clear hr
      have hneg : ∀ (b : Nat) (w : World), (Op.unary .neg (.float .f64 b)).run Try.prog w = .ok (.float .f64 (Op.negFloat .f64 b)) w := fun _ _ => rfl
      have F1 : Hid (RetF (-(r : Int) - 1) (.returned (.float .f64 (Op.negFloat .f64 r)))) := Lib.hid ⟨_, rfl, U_ng (U_small HRR.out), by
        rw [show Op.negFloat .f64 r = ng r from rfl, pl_ng (U_small HRR.out), pl_small r HRR.out]
        have := HRR.out
        unfold INF at this
        unfold ngP; rw [if_neg (by omega)]; omega⟩
      go_wp2
      go_ret
      rw [← HE.out]
      exact ⟨F1.out, B2.out⟩

theorem c39 (b : Nat) (s : AS) (w : World) (hs : AccAt w b s) (hb : b < w.heap.size) (h1 : -B2559 < s.z) (h2 : s.z < B2559) :
    Calls Try.prog 23 #[.pointer (some ⟨b, 0, none⟩)] w fun e w' => RetF (pV s) e ∧ Below w.heap.size w w' := by
  obtain ⟨z, nan, pos, neg, any⟩ := s
  by_cases ha : (nan || (pos && neg)) = true
  · exact c39n b _ w hs ha
  · have ha := Bool.eq_false_iff.2 ha
    by_cases hc : (pos || neg) = true
    · exact c39i b _ w hs ha hc
    · have hc := Bool.eq_false_iff.2 hc
      rw [Bool.or_eq_false_iff] at ha hc
      obtain ⟨rfl, rfl⟩ := hc
      obtain ⟨rfl, _⟩ := ha
      simp only at h1 h2
      by_cases hz : z < 0
      · obtain ⟨n, rfl⟩ : ∃ n : Nat, z = -(n : Int) := ⟨z.natAbs, by omega⟩
        exact c39m b n any w (by omega) hs hb (by omega)
      · obtain ⟨n, rfl⟩ : ∃ n : Nat, z = (n : Int) := ⟨z.toNat, by omega⟩
        exact c39p b n any w hs hb h2
end Go.Proofs.Ytedkbjimofiphaa

namespace Go.Proofs.Ytedkbjimofiphaa
open Go.RowKit Fl

def joinS (s t : AS) : AS := ⟨s.z + t.z, s.nan || t.nan, s.pos || t.pos, s.neg || t.neg, s.any || t.any⟩
end Go.Proofs.Ytedkbjimofiphaa

namespace Go.Proofs.Ytedkbjimofiphaa
open Go.RowKit Fl

/-- a list of floats lies in block b from o on -/
structure FL (w : World) (b o : Nat) (l : List Nat) : Prop where
  cell : ∀ j x : Nat, l[j]? = some x → w.cell? ⟨b, o + j, none⟩ = some (.float .f64 x)
  u : ∀ j x : Nat, l[j]? = some x → U x
  lt : b < w.heap.size
theorem FL.below {w w' : World} {b o : Nat} {l : List Nat} (h : FL w b o l) (hb : Below w.heap.size w w') : FL w' b o l :=
  ⟨fun j x hj => (hb.cell (p := ⟨b, o + j, none⟩) h.lt).trans (h.cell j x hj), h.u, Nat.lt_of_lt_of_le h.lt hb.size⟩
/-- the place of the plain sum -/
def plainP (l : List Nat) : Int := l.foldl (fun p x => opP .add p (pl x)) (-1)
theorem plainP_take (l : List Nat) (k x : Nat) (h : l[k]? = some x) : plainP (l.take (k + 1)) = opP .add (plainP (l.take k)) (pl x) := by
  unfold plainP
  rw [List.take_add_one, h, List.foldl_append]; rfl
end Go.Proofs.Ytedkbjimofiphaa

namespace Go.Proofs.Ytedkbjimofiphaa
open Go.RowKit Fl

def accS (l : List Nat) : AS := l.foldl addS AS.zero
theorem accS_take (l : List Nat) (k x : Nat) (h : l[k]? = some x) : accS (l.take (k + 1)) = addS (accS (l.take k)) x := by
  unfold accS
  rw [List.take_add_one, h, List.foldl_append]; rfl
def B2098 : Int := 2 ^ 2098
theorem pow2_le (k m : Nat) (h : k ≤ m) : (2 : Nat) ^ k ≤ 2 ^ m := Nat.pow_le_pow_right (by decide) h
theorem mul_pow_le (a m k j : Nat) (h1 : a ≤ 2 ^ m) (h2 : k ≤ j) : a * 2 ^ k ≤ 2 ^ (m + j) := by
  rw [Nat.pow_add]; exact Nat.mul_le_mul h1 (pow2_le _ _ h2)
theorem cast_le (a m k j t : Nat) (h1 : a ≤ 2 ^ m) (h2 : k ≤ j) (ht : m + j = t) : ((a * 2 ^ k : Nat) : Int) ≤ (2 : Int) ^ t := by
  subst ht
  have := Int.ofNat_le.2 (mul_pow_le a m k j h1 h2)
  rw [Int.natCast_pow] at this
  exact this
theorem ipow_le (k m t : Nat) (h : k + m ≤ t) : (2 : Int) ^ k * 2 ^ m ≤ 2 ^ t := by
  rw [← Int.pow_add]
  have h2 := Int.ofNat_le.2 (pow2_le (k + m) t h)
  rw [Int.natCast_pow, Int.natCast_pow] at h2
  exact h2
theorem un_bound (x : Nat) (h : fin x = true) : -B2098 ≤ un x ∧ un x ≤ B2098 := by
  have hv : ((val 52 (rg x) : Nat) : Int) ≤ B2098 := by
    rw [val_mm]
    have h1 := mM_lt x
    exact cast_le (mM x) 53 (mE x) 2045 2098 (by omega) (mE_le x h) rfl
  have h0 : (0 : Int) ≤ B2098 := Int.le_trans (Int.natCast_nonneg _) hv
  unfold un
  split <;> omega
theorem acc_bound (l : List Nat) : ∀ s : AS, s.z - l.length * B2098 ≤ (l.foldl addS s).z ∧ (l.foldl addS s).z ≤ s.z + l.length * B2098 := by
  induction l with
  | nil => intro s; simp
  | cons x r ih =>
    intro s
    have h0 : (0 : Int) ≤ B2098 := by unfold B2098; exact Int.le_of_lt (Int.pow_pos (by decide))
    have h := ih (addS s x)
    have hz : s.z - B2098 ≤ (addS s x).z ∧ (addS s x).z ≤ s.z + B2098 := by
      unfold addS
      by_cases hf : fin x = true
      · have := un_bound x hf
        simp only [hf, if_true]; omega
      · simp only [hf, if_false, Bool.false_eq_true]; omega
    rw [List.foldl_cons, List.length_cons, Int.natCast_add, Int.add_mul]
    omega
theorem acc_small (l : List Nat) (hl : l.length < 4611686018427387904) : -B2559 < (accS l).z ∧ (accS l).z < B2559 := by
  have h := acc_bound l AS.zero
  have h0 : (0 : Int) < B2098 := by unfold B2098; exact Int.pow_pos (by decide)
  have hb : (4611686018427387904 : Int) * B2098 ≤ B2559 := by
    rw [show (4611686018427387904 : Int) = 2 ^ 62 by rfl]
    exact ipow_le 62 2098 2559 (by decide)
  have hm : (l.length : Int) * B2098 < 4611686018427387904 * B2098 := Int.mul_lt_mul_of_pos_right (by omega) h0
  unfold accS
  have : AS.zero.z = 0 := rfl
  omega

set_option maxRecDepth 100000 in
set_option maxHeartbeats 1000000 in
theorem c23 (b o c : Nat) (l : List Nat) (w : World) (h : FL w b o l) (hl : l.length < 4611686018427387904) :
    Calls Try.prog 43 #[.slice (some ⟨b, o, none⟩) l.length c] w fun e w' => RetF (pV (accS l)) e ∧ Below w.heap.size w w' := by
  have H := Lib.hid h
  have HZ := Lib.hid (acc_small l hl)
  go_enter Try.func43, Try.ntmps43
  go_wp2_with (go_at_call 19; fail)
  refine (c35 _).mono ?_
  rintro e w1 ⟨rfl, ha, hb1, hs1⟩
  have A0 := Lib.hid ha
  have B0 := Lib.hid hb1
  have S0 := Lib.hid hs1
  clear ha hb1 hs1
  go_wp2_with fail
  go_loopw [9] (fun i wx => ∃ k : Nat, k ≤ l.length ∧ i = .int .i64 k ∧ Hid (AccAt wx w.heap.size (accS (l.take k))) ∧ Hid (Below w.heap.size w wx) ∧ Hid (w.heap.size < wx.heap.size)) (fun i _ => l.length - (intOf i).toNat)
  case atStart => exact ⟨0, by omega, rfl, A0, B0, S0⟩
  case round =>
    obtain ⟨k, hk, rfl, hA, hB, hS⟩ := hrel
    by_cases hlt : k < l.length
    · have hki : (k : Int) < (l.length : Int) := by omega
      obtain ⟨x, hx⟩ : ∃ x, l[k]? = some x := ⟨l[k], List.getElem?_eq_getElem hlt⟩
      have HX := Lib.hid hx
      have HLT := Lib.hid hlt
      have HU := Lib.hid (H.out.u k x hx)
      have kc := (H.out.below hB.out).cell k x hx
      clear hx h hlt A0 B0 S0
      go_wp2_with (go_at_call 21; fail)
      refine (c37 _ _ x _ HU.out hA.out hS.out).mono ?_
      rintro e w2 ⟨rfl, ha2, ho2⟩
      have A2 : Hid (AccAt w2 w.heap.size (accS (l.take (k + 1)))) := Lib.hid (by rw [accS_take l k x HX.out]; exact ha2)
      have B2 := Lib.hid (ho2.below (Nat.le_refl _) (Nat.le_of_lt hS.out) hB.out)
      have S2 := Lib.hid (Nat.lt_of_lt_of_le hS.out ho2.size)
      clear ha2 ho2 kc
      go_wp2
      go_roundw
      case rel => exact ⟨k + 1, by have := HLT.out; omega, by go_num, A2, B2, S2⟩
      case measure => have := HLT.out; simp [intOf]; omega
    · have hki : ¬ (k : Int) < (l.length : Int) := by omega
      have hkl : k = l.length := by omega
      have hA2 : Hid (AccAt _ w.heap.size (accS l)) := Lib.hid (by have := hA.out; rw [hkl, List.take_length] at this; exact this)
      clear hlt hkl h A0 B0 S0 hA
      go_wp2_with (go_at_call 23; fail)
      refine (c39 _ _ _ hA2.out hS.out HZ.out.1 HZ.out.2).mono ?_
      rintro e w2 ⟨⟨r, rfl, hr⟩, hb2⟩
      have HB := Lib.hid (hB.out.trans (hb2.mono hB.out.size))
      have HR := Lib.hid hr
      clear hb2 hr
      go_wp2
      go_ret
      exact ⟨⟨r, rfl, HR.out⟩, HB.out⟩
end Go.Proofs.Ytedkbjimofiphaa

namespace Go.Proofs.Ytedkbjimofiphaa
open Go.RowKit Fl

set_option maxRecDepth 100000 in
theorem c24 (x y : Nat) (w : World) (hx : U x) (hy : U y) : Calls Try.prog 22 #[.float .f64 x, .float .f64 y] w fun e w' => e = .returned (.bool (pl x == pl y)) ∧ w = w' := by
  have h := same_bits hx hy
  have e1 := neq_self x hx
  have e2 := neq_self y hy
  have e3 : ((x : Int) == (y : Int)) = (x == y) := by rw [Bool.eq_iff_iff]; simp; omega
  rw [← h]
  clear h
  cases h1 : (x == y) <;> cases h2 : isN x <;> cases h3 : isN y
  all_goals
    rw [h2] at e1
    rw [h3] at e2
    rw [h1] at e3
    clear h1 h2 h3
    go_enter Try.func22, Try.ntmps22
    go_wp2
    go_ret
    exact ⟨rfl, rfl⟩

/-- what is lost in a sum -/
def lostS (x y s : Nat) : AS := addS (addS (addS AS.zero x) y) (ng s)
theorem accS3 (x y z : Nat) : accS [x, y, z] = addS (addS (addS AS.zero x) y) z := rfl
/-- the sum is a number's: what is lost -/
def twoP (x y s : Nat) : Int := pV (lostS x y s)
end Go.Proofs.Ytedkbjimofiphaa

namespace Go.Proofs.Ytedkbjimofiphaa
open Go.RowKit Fl

/-- the place of what is lost -/
def lossP (x y s : Nat) : Int := if isN s || isI s then 0 else if zk (pV (lostS x y s)) = 0 then 0 else pV (lostS x y s)
def TwoRet (x y : Nat) (e : Ending) : Prop := ∃ s r : Nat, e = .returned (.tuple #[.float .f64 s, .float .f64 r]) ∧ U s ∧ pl s = opP .add (pl x) (pl y) ∧ U r ∧ pl r = lossP x y s
theorem lost_small (x y s : Nat) : -B2559 < (lostS x y s).z ∧ (lostS x y s).z < B2559 := acc_small [x, y, ng s] (by simp)
end Go.Proofs.Ytedkbjimofiphaa

namespace Go.Proofs.Ytedkbjimofiphaa
open Go.RowKit Fl

set_option maxRecDepth 100000 in
set_option maxHeartbeats 1000000 in
theorem c23z (A : Option Addr) (c : Nat) (w : World) : Calls Try.prog 43 #[.slice A 0 c] w fun e w' => RetF (pV (accS [])) e ∧ Below w.heap.size w w' := by
  have HZ := Lib.hid (acc_small [] (by simp))
  go_enter Try.func43, Try.ntmps43
  go_wp2_with (go_at_call 19; fail)
  refine (c35 _).mono ?_
  rintro e w1 ⟨rfl, ha, hb1, hs1⟩
  have A0 : Hid (AccAt w1 w.heap.size (accS [])) := Lib.hid ha
  have B0 := Lib.hid hb1
  have S0 := Lib.hid hs1
  clear ha hb1 hs1
  go_wp2_with fail
  go_loopw [9] (fun i wx => i = .int .i64 0 ∧ Hid (AccAt wx w.heap.size (accS [])) ∧ Hid (Below w.heap.size w wx) ∧ Hid (w.heap.size < wx.heap.size)) (fun i _ => 1 - (intOf i).toNat)
  case atStart => exact ⟨rfl, A0, B0, S0⟩
  case round =>
    obtain ⟨rfl, hA, hB, hS⟩ := hrel
    clear A0 B0 S0
    go_wp2_with (go_at_call 23; fail)
    refine (c39 _ _ _ hA.out hS.out HZ.out.1 HZ.out.2).mono ?_
    rintro e w2 ⟨⟨r, rfl, hr⟩, hb2⟩
    have HB := Lib.hid (hB.out.trans (hb2.mono hB.out.size))
    have HR := Lib.hid hr
    clear hb2 hr
    go_wp2
    go_ret
    exact ⟨⟨r, rfl, HR.out⟩, HB.out⟩
end Go.Proofs.Ytedkbjimofiphaa

namespace Go.Proofs.Ytedkbjimofiphaa
open Go.RowKit Fl

/-- the place without its sign -/
def absP (p : Int) : Int := if p = 9223372036854775807 then p else if p < 0 then -p - 1 else p
theorem pl_rg (x : Nat) : pl (rg x) = absP (pl x) := by
  have h1 := rg_rg x
  have h2 := sg_rg x
  by_cases hn : isN x = true
  · have : isN (rg x) = true := by unfold isN at *; rw [h1]; exact hn
    rw [pl_nan hn, pl_nan this]; rfl
  · have hn := Bool.eq_false_iff.2 hn
    have h3 : isN (rg x) = false := by unfold isN at *; rw [h1]; exact hn
    rw [pl_pos h3 h2, h1]
    have hr : (rg x : Int) ≤ 9218868437227405312 := by unfold isN INF at hn; have := of_decide_eq_false hn; omega
    cases hs : sg x
    · rw [pl_pos hn hs]; unfold absP; rw [if_neg (by omega), if_neg (by omega)]
    · rw [pl_neg hn hs]; unfold absP; rw [if_neg (by omega), if_pos (by omega)]; omega
/-- a step of Held: sum and rest -/
def heldT (s x : Int) : Int := opP .add s x
def heldC (s c x : Int) : Int :=
  if fleP (absP x) (absP s) then opP .add c (opP .add (opP .sub s (heldT s x)) x) else opP .add c (opP .add (opP .sub x (heldT s x)) s)

end Go.Proofs.Ytedkbjimofiphaa

namespace Go.Proofs.Ytedkbjimofiphaa
open Go.RowKit Fl

def heldStep (a : Int × Int) (x : Nat) : Int × Int := (heldT a.1 (pl x), heldC a.1 a.2 (pl x))
def heldF (l : List Nat) : Int × Int := l.foldl heldStep (-1, 0)
/-- the place of Held's sum: an infinity, no number or nothing lost: as it is -/
def heldP (l : List Nat) : Int :=
  let a := heldF l
  if a.1 = 9223372036854775807 ∨ absP a.1 = 9218868437227405312 ∨ feqP a.2 0 = true then a.1 else opP .add a.1 a.2
theorem heldF_take (l : List Nat) (k x : Nat) (h : l[k]? = some x) : heldF (l.take (k + 1)) = heldStep (heldF (l.take k)) x := by
  unfold heldF
  rw [List.take_add_one, h, List.foldl_append]; rfl
end Go.Proofs.Ytedkbjimofiphaa

namespace Go.Proofs.Ytedkbjimofiphaa
open Go.RowKit Fl

/-- Held's two variables lie in blocks b and b + 1 -/
structure HeldAt (w : World) (b : Nat) (s c : Nat) : Prop where
  k1 : w.cell? ⟨b, 0, none⟩ = some (.float .f64 s)
  k2 : w.cell? ⟨b + 1, 0, none⟩ = some (.float .f64 c)
  f1 : w.frozen? ⟨b, 0, none⟩ = false
  f2 : w.frozen? ⟨b + 1, 0, none⟩ = false
theorem HeldAt.step {w : World} {b s c : Nat} (h : HeldAt w b s c) (n s' c' : Nat) :
    HeldAt (((w.drewN n).setCell ⟨b + 1, 0, none⟩ (.float .f64 c')).setCell ⟨b, 0, none⟩ (.float .f64 s')) b s' c' := by
  have hne : (⟨b, 0, none⟩ : Addr) ≠ ⟨b + 1, 0, none⟩ := by intro h; injection h with h; omega
  have k1 : (w.drewN n).cell? ⟨b, 0, none⟩ = some (.float .f64 s) := h.k1
  have k2 : (w.drewN n).cell? ⟨b + 1, 0, none⟩ = some (.float .f64 c) := h.k2
  have m1 : ((w.drewN n).setCell ⟨b + 1, 0, none⟩ (.float .f64 c')).cell? ⟨b, 0, none⟩ = some (.float .f64 s) := (World.cell?_setCell_other _ _ _ _ (fun e => hne (by injection e with e; first | exact absurd e (by omega) | (subst_vars; omega)))).trans k1
  refine ⟨World.cell?_setCell_same _ _ _ m1, ?_, ?_, ?_⟩
  · exact (World.cell?_setCell_other _ _ _ _ (fun e => by injection e with e; omega)).trans (World.cell?_setCell_same _ _ _ k2)
  · exact (World.frozen?_setCell ..).trans ((World.frozen?_setCell ..).trans h.f1)
  · exact (World.frozen?_setCell ..).trans ((World.frozen?_setCell ..).trans h.f2)
theorem held_below {w0 w : World} {b : Nat} (h : Below b w0 w) (n s' c' : Nat) : Below b w0 (((w.drewN n).setCell ⟨b + 1, 0, none⟩ (.float .f64 c')).setCell ⟨b, 0, none⟩ (.float .f64 s')) :=
  ((Bd h n).setCell (by simp) _).setCell (by simp) _
theorem isI_abs (x : Nat) (hn : isN x = false) : (absP (pl x) = 9218868437227405312) ↔ isI x = true := by
  rw [← pl_rg]
  have h2 : isN (rg x) = false := by unfold isN at *; rw [rg_rg]; exact hn
  rw [pl_pos h2 (sg_rg x), rg_rg]
  unfold isI
  rw [decide_eq_true_eq]; omega
theorem heldP_eq (l : List Nat) (s t : Nat) (h : (pl s, pl t) = heldF l) : heldP l = if isI s || isN s || feqP (pl t) 0 then pl s else opP .add (pl s) (pl t) := by
  unfold heldP
  rw [← h]
  simp only
  have hr := isN_iff_pl s
  by_cases hn : isN s = true
  · rw [hn, if_pos (.inl (of_decide_eq_true (by rw [← hr]; exact hn)))]
    simp
  · have hn := Bool.eq_false_iff.2 hn
    have h1 := isI_abs s hn
    rw [hn] at hr
    have h2 := of_decide_eq_false hr.symm
    rw [hn, Bool.or_false]
    by_cases c : isI s = true
    · rw [if_pos (.inr (.inl (h1.2 c))), c]; simp
    · have h3 : ¬ absP (pl s) = 9218868437227405312 := fun e => c (h1.1 e)
      rw [Bool.eq_false_iff.2 c, Bool.false_or]
      by_cases d : feqP (pl t) 0 = true
      · rw [if_pos (.inr (.inr d)), if_pos d]
      · rw [if_neg, if_neg d]
        rintro (e | e | e)
        · exact h2 e
        · exact h3 e
        · exact d e

theorem held_start (w : World) : HeldAt ((w.alloc (.cells #[.float .f64 9223372036854775808] 31)).alloc (.cells #[.float .f64 0] 31)) w.heap.size 9223372036854775808 0 := by
  have hs : (w.alloc (.cells #[.float .f64 9223372036854775808] 31)).heap.size = w.heap.size + 1 := by simp
  have hb := (Below.refl (w.alloc (.cells #[.float .f64 9223372036854775808] 31)).heap.size (w.alloc (.cells #[.float .f64 9223372036854775808] 31))).alloc (Nat.le_refl _) (.cells #[.float .f64 0] 31)
  refine ⟨(hb.cell (p := ⟨w.heap.size, 0, none⟩) (by simp)).trans ((World.cell?_alloc_new w #[.float .f64 9223372036854775808] 31 0).trans rfl), ?_, (hb.frozen (p := ⟨w.heap.size, 0, none⟩) (by simp)).trans (by simp [go_sem]), ?_⟩
  · rw [← hs]; exact (World.cell?_alloc_new (w.alloc (.cells #[.float .f64 9223372036854775808] 31)) #[.float .f64 0] 31 0).trans rfl
  · rw [← hs]; simp [go_sem]
end Go.Proofs.Ytedkbjimofiphaa

namespace Go.Proofs.Ytedkbjimofiphaa.Fl
open Ieee

/-- the value of a rounded number of units -/
theorem val_round (N : Nat) : val 52 (rungOf 52 N 0) = rhe N (2 ^ (N.log2 - 52)) * 2 ^ (N.log2 - 52) := by
  by_cases h0 : N = 0
  · subst h0; rw [rungOf_zero, val_zero, rhe_zero, Nat.zero_mul]
  have l1 := Nat.log2_self_le h0
  have l2 : N < 2 ^ (N.log2 + 1) := Nat.lt_log2_self
  unfold rungOf
  rw [Nat.sub_zero, Nat.zero_add]
  generalize hd : N.log2 - 52 = d at *
  rcases Nat.eq_zero_or_pos d with hz | hz
  · subst hz
    rw [Nat.pow_zero, rhe_one, Nat.zero_mul, Nat.zero_add, Nat.mul_one]
    refine val_small _ _ ?_
    have : 2 ^ (N.log2 + 1) ≤ 2 ^ 53 := Nat.pow_le_pow_right (by decide) (by omega)
    rw [show (2 : Nat) * 2 ^ 52 = 2 ^ 53 by decide]; omega
  · have e1 : N.log2 = d + 52 := by omega
    rw [e1, Nat.pow_add] at l1
    rw [e1, show d + 52 + 1 = d + 53 by omega, Nat.pow_add] at l2
    have q1 : 4503599627370496 ≤ rhe N (2 ^ d) := rhe_ge_of _ _ _ (Nat.two_pow_pos _) (by rw [show (4503599627370496 : Nat) = 2 ^ 52 by decide]; exact l1)
    have q2 : rhe N (2 ^ d) ≤ 9007199254740992 := rhe_le_of _ _ _ (Nat.two_pow_pos _) (by rw [show (9007199254740992 : Nat) = 2 ^ 53 by decide]; omega)
    generalize rhe N (2 ^ d) = q at *
    unfold val
    rw [show (2 : Nat) ^ 52 = 4503599627370496 by decide, if_neg (by omega)]
    by_cases hq : q = 9007199254740992
    · subst hq
      have a1 : (d * 4503599627370496 + 9007199254740992) / 4503599627370496 = d + 2 := by omega
      have a2 : (d * 4503599627370496 + 9007199254740992) % 4503599627370496 = 0 := by omega
      rw [a1, a2, show d + 2 - 1 = d + 1 by omega, Nat.pow_succ]
      generalize 2 ^ d = g
      omega
    · have a1 : (d * 4503599627370496 + q) / 4503599627370496 = d + 1 := by omega
      have a2 : (d * 4503599627370496 + q) % 4503599627370496 = q - 4503599627370496 := by omega
      rw [a1, a2, show d + 1 - 1 = d by omega, show 4503599627370496 + (q - 4503599627370496) = q by omega]
/-- above a bound all numbers are many times a power of two -/
theorem val_dvd (r d : Nat) (h : 4503599627370496 * 2 ^ d ≤ val 52 r) : ∃ k, val 52 r = k * 2 ^ d := by
  have hp := Nat.two_pow_pos d
  by_cases hr : r < 4503599627370496
  · rw [val_small 52 r (by rw [show (2 : Nat) ^ 52 = 4503599627370496 by decide]; omega)] at h
    have : 4503599627370496 * 1 ≤ 4503599627370496 * 2 ^ d := Nat.mul_le_mul_left _ hp
    omega
  · have hb := val_bounds 52 r (by rw [show (2 : Nat) ^ 52 = 4503599627370496 by decide]; omega)
    rw [show (2 : Nat) ^ 52 = 4503599627370496 by decide] at hb
    have h1 : 4503599627370496 * 2 ^ d < 4503599627370496 * 2 ^ (r / 4503599627370496) := by omega
    have h2 := Nat.lt_of_mul_lt_mul_left h1
    have h3 : d < r / 4503599627370496 := (Nat.pow_lt_pow_iff_right (by decide)).1 h2
    unfold val
    rw [show (2 : Nat) ^ 52 = 4503599627370496 by decide, if_neg hr]
    generalize r / 4503599627370496 = e at *
    refine ⟨(4503599627370496 + r % 4503599627370496) * 2 ^ (e - 1 - d), ?_⟩
    rw [Nat.mul_assoc, ← Nat.pow_add]
    congr 2; omega
theorem near_mul (N g k : Nat) (hg : 0 < g) : ((rhe N g * g : Nat) - (N : Int)).natAbs ≤ ((k * g : Nat) - (N : Int)).natAbs := by
  have hb := rhe_bounds N g hg
  rw [Nat.mul_comm g] at hb
  generalize rhe N g = q at *
  rcases Nat.lt_trichotomy k q with h | h | h
  · have h1 : (k + 1) * g ≤ q * g := Nat.mul_le_mul_right _ h
    rw [Nat.add_mul, Nat.one_mul] at h1
    omega
  · subst h; exact Nat.le_refl _
  · have h1 : (q + 1) * g ≤ k * g := Nat.mul_le_mul_right _ h
    rw [Nat.add_mul, Nat.one_mul] at h1
    omega
/-- no number is nearer -/
theorem nearest_le (N r : Nat) : ((val 52 (rungOf 52 N 0) : Nat) - (N : Int)).natAbs ≤ ((val 52 r : Nat) - (N : Int)).natAbs := by
  rw [val_round]
  by_cases h0 : N = 0
  · subst h0; rw [rhe_zero, Nat.zero_mul]; omega
  have l1 := Nat.log2_self_le h0
  generalize hd : N.log2 - 52 = d at *
  have hp := Nat.two_pow_pos d
  rcases Nat.eq_zero_or_pos d with hz | hz
  · subst hz; rw [Nat.pow_zero, rhe_one, Nat.mul_one]; omega
  · have e1 : N.log2 = 52 + d := by omega
    rw [e1, Nat.pow_add, show (2 : Nat) ^ 52 = 4503599627370496 by decide] at l1
    by_cases hv : 4503599627370496 * 2 ^ d ≤ val 52 r
    · obtain ⟨k, hk⟩ := val_dvd r d hv
      rw [hk]
      exact near_mul N (2 ^ d) k hp
    · have := near_mul N (2 ^ d) 4503599627370496 hp
      omega
theorem pow_split (j k : Nat) (h : j ≤ k) : ∃ c, 2 ^ k = c * 2 ^ j := ⟨2 ^ (k - j), by rw [← Nat.pow_add]; congr 1; omega⟩
/-- of many times a power of two nothing is lost, or what is left is -/
theorem round_mult (m j : Nat) : val 52 (rungOf 52 (m * 2 ^ j) 0) = m * 2 ^ j ∨ (j < (m * 2 ^ j).log2 - 52 ∧ ∃ k, val 52 (rungOf 52 (m * 2 ^ j) 0) = k * 2 ^ j) := by
  rw [val_round]
  generalize hd : (m * 2 ^ j).log2 - 52 = d
  rcases Nat.lt_or_ge j d with h | h
  · right
    obtain ⟨c, hc⟩ := pow_split j d (by omega)
    exact ⟨h, rhe (m * 2 ^ j) (2 ^ d) * c, by rw [hc, Nat.mul_assoc]⟩
  · left
    obtain ⟨c, hc⟩ := pow_split d j h
    rw [hc, ← Nat.mul_assoc, rhe_exact _ _ (Nat.two_pow_pos _)]
/-- such a number of units comes back whole -/
theorem rep_mult (m j r : Nat) (hm : m ≤ 9007199254740992) (hr : r < INF) (h : m * 2 ^ j ≤ val 52 r) : val 52 (rnd (m * 2 ^ j)) = m * 2 ^ j ∧ rnd (m * 2 ^ j) < INF := by
  have h1 := rnd_mono h
  rw [rnd_val r (by omega)] at h1
  have h2 : rnd (m * 2 ^ j) < INF := by omega
  have h3 : rnd (m * 2 ^ j) = rungOf 52 (m * 2 ^ j) 0 := by unfold rnd at h2 ⊢; omega
  exact ⟨by rw [h3]; exact val_rungOf_small 52 m j (by rw [show (2 : Nat) * 2 ^ 52 = 9007199254740992 by decide]; exact hm), h2⟩
end Go.Proofs.Ytedkbjimofiphaa.Fl

namespace Go.Proofs.Ytedkbjimofiphaa
open Go.RowKit Fl

/-- the word nearest to z units; nought below where cold -/
def wz (z : Int) (cold : Bool) : Nat := word (decide (z < 0) || (decide (z = 0) && cold)) (rnd z.natAbs)
theorem U_wz (z : Int) (c : Bool) : U (wz z c) := U_word _ _ (rnd_lt _)
theorem pl_wz (z : Int) (c : Bool) : pl (wz z c) = if z < 0 then -(rnd z.natAbs : Int) - 1 else if z = 0 ∧ c = true then -1 else (rnd z.natAbs : Int) := by
  unfold wz
  rw [pl_word _ _ (rnd_le _)]
  by_cases h : z < 0
  · rw [decide_eq_true h, Bool.true_or, if_pos rfl, if_pos h]
  · rw [decide_eq_false h, Bool.false_or, if_neg h]
    by_cases h0 : z = 0 ∧ c = true
    · obtain ⟨rfl, rfl⟩ := h0
      simp [rnd_zero]
    · rw [if_neg h0, if_neg]
      simpa using h0
/-- the sum of two finite numbers -/
theorem add_fin (a b : Nat) (ha : U a) (hb : U b) (fa : fin a = true) (fb : fin b = true) : floatBits .add .f64 a b = some (wz (un a + un b) (sg a && sg b)) := by
  show Ieee.double.add a b = some _
  obtain ⟨m, i, ea, va⟩ := read_fin a ha fa
  obtain ⟨n, j, eb, vb⟩ := read_fin b hb fb
  unfold Ieee.Format.add
  rw [ea, eb]
  simp only [Ieee.Datum.sum, Option.map_some]
  have e1 : (-1074 + (i : Int) - min (-1074 + (i : Int)) (-1074 + (j : Int))).toNat = i - min i j := by omega
  have e2 : (-1074 + (j : Int) - min (-1074 + (i : Int)) (-1074 + (j : Int))).toNat = j - min i j := by omega
  have e3 : min (-1074 + (i : Int)) (-1074 + (j : Int)) = -1074 + ((min i j : Nat) : Int) := by omega
  rw [e1, e2, e3]
  have u1 := un_of (sg a) a m i rfl va (min i j) (Nat.min_le_left _ _)
  have u2 := un_of (sg b) b n j rfl vb (min i j) (Nat.min_le_right _ _)
  generalize Ieee.signed (sg a) m (i - min i j) = p at *
  generalize Ieee.signed (sg b) n (j - min i j) = q at *
  generalize min i j = k at *
  have hz : un a + un b = (p + q) * 2 ^ k := by rw [← u1, ← u2, Int.add_mul]
  rw [hz]
  have hk : (0 : Int) < 2 ^ k := Int.pow_pos (by decide)
  refine congrArg some ?_
  show Ieee.double.nearest _ _ _ = _
  rw [d_nearest _ _ _ (by omega), show (-1074 + (k : Int) + 1074).toNat = k by omega]
  unfold wz
  rw [Int.natAbs_mul, Int.natAbs_pow, show (2 : Int).natAbs = 2 from rfl]
  congr 1
  generalize p + q = t
  by_cases h0 : t = 0
  · subst h0; simp
  · have h1 : ¬ t * 2 ^ k = 0 := fun h => by
      rcases Int.mul_eq_zero.1 h with h | h
      · exact h0 h
      · omega
    rw [if_neg h0, decide_eq_false h1, Bool.false_and, Bool.or_false]
    congr 1
    refine propext ⟨fun h => ?_, fun h => ?_⟩
    · have := Int.mul_lt_mul_of_pos_right h hk
      rwa [Int.zero_mul] at this
    · have : t * 2 ^ k < 0 * 2 ^ k := by rwa [Int.zero_mul]
      exact Int.lt_of_mul_lt_mul_right this (Int.le_of_lt hk)
theorem opP_add (a b : Nat) (ha : U a) (hb : U b) (fa : fin a = true) (fb : fin b = true) : opP .add (pl a) (pl b) = pl (wz (un a + un b) (sg a && sg b)) := by
  unfold opP
  rw [atW_pl a ha (fin_not_nan fa), atW_pl b hb (fin_not_nan fb), add_fin a b ha hb fa fb]
theorem fin_ng {x : Nat} (h : U x) : fin (ng x) = fin x := by unfold fin; rw [rg_ng h]
theorem un_ng {x : Nat} (h : U x) : un (ng x) = -un x := by
  unfold un; rw [sg_ng h, rg_ng h]
  cases sg x <;> simp
/-- a difference is a sum -/
theorem sub_ng (a b : Nat) (hb : U b) : Ieee.double.sub a b = Ieee.double.add a (ng b) ∨ isN b = true := by
  by_cases hn : isN b = true
  · exact .inr hn
  · left
    have hn := Bool.eq_false_iff.2 hn
    unfold Ieee.Format.sub Ieee.Format.add
    have e : (Ieee.double.read b).opposite = Ieee.double.read (ng b) := by
      have h1 := U_ng hb
      rw [read_eq b hb, read_eq (ng b) h1, sg_ng hb, rg_ng hb]
      split
      · rfl
      · split
        · rfl
        · split
          · rfl
          · exact absurd (isN_false hn) (by omega)
    rw [e]
theorem opP_sub (a b : Nat) (ha : U a) (hb : U b) (fa : fin a = true) (fb : fin b = true) : opP .sub (pl a) (pl b) = pl (wz (un a - un b) (sg a && !sg b)) := by
  unfold opP
  rw [atW_pl a ha (fin_not_nan fa), atW_pl b hb (fin_not_nan fb)]
  have h1 : floatBits .sub .f64 a b = floatBits .add .f64 a (ng b) := (sub_ng a b hb).resolve_right (by rw [fin_not_nan fb]; exact Bool.false_ne_true)
  rw [h1, add_fin a (ng b) ha (U_ng hb) fa (by rw [fin_ng hb]; exact fb), un_ng hb, sg_ng hb]
  rfl

/-- so many units are a number's -/
def Rep (z : Int) : Prop := val 52 (rnd z.natAbs) = z.natAbs ∧ rnd z.natAbs < INF
theorem sg_wz (z : Int) (c : Bool) : sg (wz z c) = (decide (z < 0) || (decide (z = 0) && c)) := sg_word _ _ (rnd_lt _)
theorem rg_wz (z : Int) (c : Bool) : rg (wz z c) = rnd z.natAbs := rg_word _ _ (rnd_lt _)
theorem fin_wz {z : Int} (c : Bool) (h : Rep z) : fin (wz z c) = true := by unfold fin; rw [rg_wz]; exact decide_eq_true h.2
theorem un_wz {z : Int} (c : Bool) (h : Rep z) : un (wz z c) = z := by
  unfold un
  rw [sg_wz, rg_wz, h.1]
  by_cases h1 : z < 0
  · rw [decide_eq_true h1, Bool.true_or, if_pos rfl]; omega
  · rw [decide_eq_false h1, Bool.false_or]
    by_cases h2 : z = 0
    · subst h2; cases c <;> rfl
    · rw [decide_eq_false h2, Bool.false_and, if_neg Bool.false_ne_true]; omega
theorem rep_neg {z : Int} (h : Rep z) : Rep (-z) := by unfold Rep at *; rwa [Int.natAbs_neg]
theorem rep_zero : Rep 0 := by unfold Rep; rw [show (0 : Int).natAbs = 0 from rfl, rnd_zero, val_zero]; exact ⟨rfl, by decide⟩
/-- a whole number that is not too great -/
def ONEi : Int := (ONE : Int)
theorem rep_whole (k : Int) (h : k.natAbs ≤ 9007199254740992) : Rep (k * ONEi) := by
  unfold Rep ONEi
  rw [Int.natAbs_mul, Int.natAbs_natCast, one_pow]
  exact small_word k.natAbs K h (by omega)
/-- of exact sums -/
theorem plz_add (y z : Int) (c d : Bool) (hy : Rep y) (hz : Rep z) :
    opP .add (pl (wz y c)) (pl (wz z d)) = pl (wz (y + z) ((decide (y = 0) && c) && (decide (z = 0) && d))) := by
  rw [opP_add _ _ (U_wz _ _) (U_wz _ _) (fin_wz _ hy) (fin_wz _ hz), un_wz _ hy, un_wz _ hz, sg_wz, sg_wz, pl_wz, pl_wz]
  by_cases h1 : y + z < 0
  · rw [if_pos h1, if_pos h1]
  · rw [if_neg h1, if_neg h1]
    by_cases h2 : y + z = 0
    · by_cases hy0 : y = 0
      · have hz0 : z = 0 := by omega
        subst hy0; subst hz0
        simp
      · have e : ((decide (y < 0) || (decide (y = 0) && c)) && (decide (z < 0) || (decide (z = 0) && d))) = false := by
          rw [Bool.and_eq_false_iff]
          by_cases h3 : y < 0
          · right
            rw [decide_eq_false (show ¬ z < 0 by omega), decide_eq_false (show ¬ z = 0 by omega)]; rfl
          · left
            rw [decide_eq_false h3, decide_eq_false hy0]; rfl
        have e2 : ((decide (y = 0) && c) && (decide (z = 0) && d)) = false := by rw [decide_eq_false hy0]; rfl
        rw [e, e2]
    · rw [if_neg (fun h => h2 h.1), if_neg (fun h => h2 h.1)]
theorem plz_sub (y z : Int) (c d : Bool) (hy : Rep y) (hz : Rep z) :
    opP .sub (pl (wz y c)) (pl (wz z d)) = pl (wz (y - z) ((decide (y = 0) && c) && (decide (z = 0) && !d))) := by
  have h1 : opP .sub (pl (wz y c)) (pl (wz z d)) = opP .add (pl (wz y c)) (pl (wz (-z) (!d))) := by
    rw [opP_add _ _ (U_wz _ _) (U_wz _ _) (fin_wz _ hy) (fin_wz _ (rep_neg hz)), opP_sub _ _ (U_wz _ _) (U_wz _ _) (fin_wz _ hy) (fin_wz _ hz), un_wz _ hy, un_wz _ hz, un_wz _ (rep_neg hz), sg_wz, sg_wz, sg_wz]
    rw [Int.sub_eq_add_neg]
    have e : (!(decide (z < 0) || (decide (z = 0) && d))) = (decide (-z < 0) || (decide (-z = 0) && !d)) := by
      by_cases h : z < 0
      · rw [decide_eq_true h, decide_eq_false (show ¬ -z < 0 by omega), decide_eq_false (show ¬ -z = 0 by omega)]; rfl
      · by_cases h0 : z = 0
        · subst h0; simp
        · rw [decide_eq_false h, decide_eq_false h0, decide_eq_true (show -z < 0 by omega)]; rfl
    rw [e]
  rw [h1, plz_add _ _ _ _ hy (rep_neg hz), Int.sub_eq_add_neg]
  congr 2
  by_cases h0 : z = 0
  · subst h0; rfl
  · rw [decide_eq_false h0, decide_eq_false (show ¬ -z = 0 by omega)]

/-- the units of the number nearest to z units -/
def ru (z : Int) : Int := if z < 0 then -(val 52 (rnd z.natAbs) : Int) else (val 52 (rnd z.natAbs) : Int)
theorem un_wzr (z : Int) (c : Bool) : un (wz z c) = ru z := by
  unfold un ru
  rw [sg_wz, rg_wz]
  by_cases h1 : z < 0
  · rw [decide_eq_true h1, Bool.true_or, if_pos rfl, if_pos h1]
  · rw [decide_eq_false h1, Bool.false_or, if_neg h1]
    by_cases h2 : z = 0
    · subst h2
      rw [show (0 : Int).natAbs = 0 from rfl, rnd_zero, val_zero]
      cases c <;> rfl
    · rw [decide_eq_false h2, Bool.false_and, if_neg Bool.false_ne_true]
theorem fin_wzr {z : Int} (c : Bool) (h : rnd z.natAbs < INF) : fin (wz z c) = true := by unfold fin; rw [rg_wz]; exact decide_eq_true h
theorem rung_of_rnd {N : Nat} (h : rnd N < INF) : rungOf 52 N 0 = rnd N := by unfold rnd at *; omega
theorem un_abs (x : Nat) : (un x).natAbs = val 52 (rg x) := by unfold un; split <;> omega
theorem rep_un (x : Nat) (h : fin x = true) : Rep (un x) := by
  have := fin_true h
  unfold Rep
  rw [un_abs, rnd_val _ (by omega)]
  exact ⟨rfl, this⟩
end Go.Proofs.Ytedkbjimofiphaa
