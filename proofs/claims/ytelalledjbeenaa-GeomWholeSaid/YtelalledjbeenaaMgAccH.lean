/- An Acc: Value. An Acc: Value, less than nought. An Acc: Join. -/
import Derived.Test.YtelalledjbeenaaMgAccF
namespace Go.Proofs.Ytelalledjbeenaa
open Go.RowKit Fl

/-- the place of what an Acc tells -/
def pV (s : AS) : Int :=
  if s.nan || (s.pos && s.neg) then 9223372036854775807 else if s.pos then 9218868437227405312 else if s.neg then -9218868437227405313
  else if s.z < 0 then -(rnd s.z.natAbs : Int) - 1 else if rnd s.z.natAbs = 0 ∧ s.any = false then -1 else (rnd s.z.natAbs : Int)
theorem c144 (w : World) : Calls Try.prog 144 #[] w fun e w' => e = .returned (.float .f64 QN) ∧ w = w' := by
  go_enter Try.func144, Try.ntmps144
  go_wp2_with (go_at_call 135; refine (c135 _).mono ?_; rintro e w' ⟨rfl, rfl⟩)
  go_ret
  exact ⟨rfl, rfl⟩
theorem c131 (w : World) : Calls Try.prog 131 #[] w fun e w' => e = .returned (.float .f64 9223372036854775808) ∧ w = w' := by
  go_enter Try.func131, Try.ntmps131
  go_wp2_with (go_at_call 175; refine (c175 0 13830554455654793216 _ (by unfold U; decide) (by unfold U; decide)).mono ?_; rintro e w' ⟨rfl, rfl⟩)
  go_ret
  exact ⟨ret_float (by decide), rfl⟩
def B2559 : Int := 2 ^ 2559
theorem sign_word (z : Int) (h1 : -B2559 ≤ z) (h2 : z < B2559) : (wd z 39 / 9223372036854775808 == 1) = decide (z < 0) := by
  unfold wd
  rw [show 64 * 39 = 2496 by rfl]
  have hP : B2559 = 9223372036854775808 * (2 : Int) ^ 2496 := by unfold B2559; rw [show (9223372036854775808 : Int) = 2 ^ 63 by rfl, ← Int.pow_add]
  have hp : (0 : Int) < 2 ^ 2496 := Int.pow_pos (by decide)
  rw [hP] at h1 h2
  generalize (2 : Int) ^ 2496 = p at *
  have hq2 : z / p < 9223372036854775808 := Int.ediv_lt_of_lt_mul hp h2
  have hq1 : -9223372036854775808 ≤ z / p := Int.le_ediv_of_mul_le hp (by omega)
  have hs : z / p < 0 ↔ z < 0 := ⟨fun h => by have := fun h0 : 0 ≤ z => Int.ediv_nonneg h0 (Int.le_of_lt hp); omega, fun h => Int.ediv_lt_of_lt_mul hp (by omega)⟩
  generalize z / p = q at *
  by_cases h0 : z < 0
  · have := hs.2 h0
    rw [decide_eq_true h0]; simp; omega
  · have : ¬ q < 0 := fun h => h0 (hs.1 h)
    rw [decide_eq_false h0]; simp; omega
theorem B2559_cap (n : Nat) (h : (n : Int) ≤ B2559) : n < 2 ^ (64 * CAP) := by
  have h2 : B2559 = ((2 ^ 2559 : Nat) : Int) := by unfold B2559; exact (Int.natCast_pow 2 2559).symm
  have h3 : n ≤ 2 ^ 2559 := by rw [h2] at h; exact Int.ofNat_le.1 h
  have h4 : ∀ k m : Nat, k < m → 2 ^ k < 2 ^ m := fun k m h => Nat.pow_lt_pow_right (by decide) h
  exact Nat.lt_of_le_of_lt h3 (h4 2559 (64 * CAP) (by rw [CAP_eq]; decide))
theorem wd_nn (z : Int) (i : Nat) : 0 ≤ wd z i := by unfold wd; exact Int.emod_nonneg _ (by decide)

theorem AS.boolsN (s : AS) (h : (s.nan || (s.pos && s.neg)) = true) : pV s = 9223372036854775807 := by unfold pV; rw [if_pos h]
set_option maxRecDepth 100000 in
set_option maxHeartbeats 1000000 in
theorem c39n (b : Nat) (s : AS) (w : World) (hs : AccAt w b s) (h : (s.nan || (s.pos && s.neg)) = true) :
    Calls Try.prog 39 #[.pointer (some ⟨b, 0, none⟩)] w fun e w' => RetF (pV s) e ∧ Below w.heap.size w w' := by
  rw [s.boolsN h]
  obtain ⟨_, k0, k1, k2, k3, f0, f1, f2, f3⟩ := hs
  obtain ⟨z, nan, pos, neg, any⟩ := s
  simp only at h k0 k1 k2 k3
  have hq : RetF 9223372036854775807 (.returned (.float .f64 QN)) := ⟨QN, rfl, by unfold U QN; decide, by decide⟩
  have H := Lib.hid hq
  clear hq
  cases nan <;> cases pos <;> cases neg <;> first | exact absurd h (by decide) | skip
  all_goals
    clear h
    go_enter Try.func39, Try.ntmps39
    go_wp2_with (go_at_call 144; refine (c144 _).mono ?_; rintro e w' ⟨rfl, rfl⟩)
    go_ret
    exact ⟨H.out, Below.refl _ _⟩
set_option maxRecDepth 100000 in
set_option maxHeartbeats 1000000 in
theorem c39i (b : Nat) (s : AS) (w : World) (hs : AccAt w b s) (h : (s.nan || (s.pos && s.neg)) = false) (h2 : (s.pos || s.neg) = true) :
    Calls Try.prog 39 #[.pointer (some ⟨b, 0, none⟩)] w fun e w' => RetF (pV s) e ∧ Below w.heap.size w w' := by
  obtain ⟨_, k0, k1, k2, k3, f0, f1, f2, f3⟩ := hs
  obtain ⟨z, nan, pos, neg, any⟩ := s
  simp only at h h2 k0 k1 k2 k3
  have hp : RetF 9218868437227405312 (.returned (.float .f64 9218868437227405312)) := ⟨_, rfl, by unfold U; decide, by decide⟩
  have hn : RetF (-9218868437227405313) (.returned (.float .f64 18442240474082181120)) := ⟨_, rfl, by unfold U; decide, by decide⟩
  have HP := Lib.hid hp
  have HN := Lib.hid hn
  clear hp hn
  cases nan <;> cases pos <;> cases neg <;> first | exact absurd h (by decide) | exact absurd h2 (by decide) | skip
  all_goals
    go_enter Try.func39, Try.ntmps39
    go_wp2_with (first | (go_at_call 137; refine (c137p _).mono ?_; rintro e w' ⟨rfl, rfl⟩) | (go_at_call 137; refine (c137n _).mono ?_; rintro e w' ⟨rfl, rfl⟩))
    go_ret
    first
    | exact ⟨HP.out, Below.refl _ _⟩
    | exact ⟨HN.out, Below.refl _ _⟩

theorem pl_small (r : Nat) (h : r ≤ INF) : pl r = (r : Int) := by
  have := pl_word false r h
  rw [if_neg (by decide)] at this
  exact this
theorem U_small {r : Nat} (h : r ≤ INF) : U r := by unfold U; unfold INF at h; omega
theorem eq_zero_false (r : Nat) (h : r ≤ INF) (h0 : r ≠ 0) : (FloatKind.f64.format.order r 0 == some Ordering.eq) = false := by
  rw [f_eq r 0 (U_small h) (by unfold U; decide), pl_small r h, pl_small 0 (by unfold INF; omega)]
  unfold feqP zk
  rw [if_neg (by omega), if_neg (by omega), decide_eq_false (show ¬ ((r : Int) = ((0 : Nat) : Int)) by omega), Bool.and_false]
theorem RetF_small (r : Nat) (h : r ≤ INF) : RetF (r : Int) (.returned (.float .f64 r)) := ⟨r, rfl, U_small h, pl_small r h⟩
theorem rnd_le_INF (n : Nat) : rnd n ≤ INF := by unfold rnd; exact Nat.min_le_right _ _
set_option maxRecDepth 100000 in
set_option maxHeartbeats 2000000 in
/-- not less than nought -/
theorem c39p (b n : Nat) (any : Bool) (w : World) (hs : AccAt w b ⟨(n : Int), false, false, false, any⟩) (hb : b < w.heap.size) (h2 : (n : Int) < B2559) :
    Calls Try.prog 39 #[.pointer (some ⟨b, 0, none⟩)] w fun e w' => RetF (pV ⟨(n : Int), false, false, false, any⟩) e ∧ Below w.heap.size w w' := by
  have hpv : pV ⟨(n : Int), false, false, false, any⟩ = if rnd n = 0 ∧ any = false then -1 else (rnd n : Int) := by
    unfold pV
    simp only [Bool.false_and, Bool.or_false, Bool.false_eq_true, if_false, Int.natAbs_natCast]
    rw [if_neg (by omega)]
  rw [hpv]
  obtain ⟨p, hp⟩ : ∃ p : Int, p = if rnd n = 0 ∧ any = false then -1 else (rnd n : Int) := ⟨_, rfl⟩
  rw [← hp]
  have HP := Lib.hid hp
  clear hp
  have HS := Lib.hid (sign_word (n : Int) (by unfold B2559 at *; have : (0:Int) ≤ 2 ^ 2559 := Int.le_of_lt (Int.pow_pos (by decide)); omega) h2)
  have HC := Lib.hid (B2559_cap n (by omega))
  have hr := rnd_le_INF n
  obtain ⟨hrow, k0, k1, k2, k3, f0, f1, f2, f3⟩ := hs
  simp only at hrow k0 k1 k2 k3
  obtain ⟨k39, _⟩ := hrow 39 (by omega)
  have HR := Lib.hid hrow
  have R1 := Lib.hid ((row_zero w).setAll (n : Int))
  have T1 : Hid ((w.alloc (.cells (Array.replicate 40 (.int .u64 0)) 138)).there w.heap.size 0 (WL (n : Int)).toArray.size) := Lib.hid ((row_zero w).there (by simp [WL_len]))
  have hi : (Try.prog.info? 138).map (·.size) = some (WL (n : Int)).toArray.size := by rw [size138]; simp [WL_len]
  have HI := Lib.hid hi
  have B1 := Lib.hid (below_setCells ((Below.refl w.heap.size w).alloc (Nat.le_refl _) (.cells (Array.replicate 40 (.int .u64 0)) 138)) (Nat.le_refl _) 0 (WL (n : Int)))
  have L1 : Hid (w.heap.size < ((w.alloc (.cells (Array.replicate 40 (.int .u64 0)) 138)).setCells w.heap.size 0 (WL (n : Int))).heap.size) := Lib.hid (by rw [size_setCells]; simp)
  have HB := Lib.hid hb
  have e0 : (wd (n : Int) 39 / 9223372036854775808 == 1) = false := by rw [HS.out]; exact decide_eq_false (by omega)
  clear h2 HS hi hpv
  have W39 : (0 : Int) ≤ wd (n : Int) 39 := wd_nn _ _
  generalize wd (n : Int) 39 = q at *
  go_enter Try.func39, Try.ntmps39
  go_upto_region 8 with fail
  go_cut [4] (fun p wx => p = .pointer (some ⟨w.heap.size, 0, none⟩) ∧ Hid (Row wx w.heap.size (wd (n : Int))) ∧ Hid (Below w.heap.size w wx) ∧ Hid (w.heap.size < wx.heap.size))
  case first =>
    go_wp2_with (first
      | (refine wpList_load_mid rfl 138 (.tmp 45) rfl b 0 rfl (WL (n : Int)) _ HR.out.range Try.underlying138 rfl (len138 _) ?_)
      | (refine wpList_store_mid rfl 138 (.tmp 4) (.tmp 46) rfl w.heap.size 0 (WL (n : Int)).toArray rfl rfl T1.out HI.out (WL_one _) ?_))
    go_meet
    exact ⟨rfl, R1, B1, L1⟩
  case rest =>
    obtain ⟨rfl, hR, hB, hL⟩ := hcut
    clear R1 B1 L1 T1 HI HR
    go_wp2_with (first
      | (refine wpList_load_mid rfl 138 (.tmp 4) rfl w.heap.size 0 rfl (WL (n : Int)) _ hR.out.range Try.underlying138 rfl (len138 _) ?_)
      | (go_at_call 145; fail))
    refine (c145 n _ HC.out).mono ?_
    rintro e w2 ⟨rfl, hb2⟩
    have B2 := Lib.hid (hB.out.trans (hb2.mono hB.out.size))
    have k3' : w2.cell? ⟨b, 43, none⟩ = some (.bool any) := (B2.out.cell (p := ⟨b, 43, none⟩) HB.out).trans k3
    have f3' : w2.frozen? ⟨b, 43, none⟩ = false := (B2.out.frozen (p := ⟨b, 43, none⟩) HB.out).trans f3
    clear k3 f3 k0 k1 k2 f0 f1 f2 hb2 hB hR hL k39 e0 W39
    generalize rnd n = r at *
    by_cases h0 : r = 0
    · subst h0
      have e1 : (FloatKind.f64.format.order 0 0 == some Ordering.eq) = true := by decide
      clear hr
      cases any
      · have F2 : Hid (RetF p (.returned (.float .f64 9223372036854775808))) := Lib.hid ⟨_, rfl, by unfold U; decide, by rw [HP.out, if_pos ⟨rfl, rfl⟩]; decide⟩
        clear HP
        go_wp2_with (go_at_call 131; refine (c131 _).mono ?_; rintro e w' ⟨rfl, rfl⟩)
        go_ret
        exact ⟨F2.out, B2.out⟩
      · have F2 : Hid (RetF p (.returned (.float .f64 0))) := Lib.hid ⟨_, rfl, by unfold U; decide, by rw [HP.out, if_neg (by decide)]; decide⟩
        clear HP
        go_wp2
        go_ret
        exact ⟨F2.out, B2.out⟩
    · have e1 := eq_zero_false r hr h0
      have F2 : Hid (RetF p (.returned (.float .f64 r))) := Lib.hid (by rw [HP.out, if_neg (fun h => h0 h.1)]; exact RetF_small r hr)
      clear hr h0 HP
      go_wp2
      go_ret
      exact ⟨F2.out, B2.out⟩

end Go.Proofs.Ytelalledjbeenaa

namespace Go.Proofs.Ytelalledjbeenaa
open Go.RowKit Fl

set_option maxRecDepth 100000 in
set_option maxHeartbeats 2000000 in
/-- less than nought -/
theorem c39m (b n : Nat) (any : Bool) (w : World) (hn : 0 < n) (hs : AccAt w b ⟨-(n : Int), false, false, false, any⟩) (hb : b < w.heap.size) (h2 : (n : Int) < B2559) :
    Calls Try.prog 39 #[.pointer (some ⟨b, 0, none⟩)] w fun e w' => RetF (pV ⟨-(n : Int), false, false, false, any⟩) e ∧ Below w.heap.size w w' := by
  have hpv : pV ⟨-(n : Int), false, false, false, any⟩ = -(rnd n : Int) - 1 := by
    unfold pV
    simp only [Bool.false_and, Bool.or_false, Bool.false_eq_true, if_false, Int.natAbs_neg, Int.natAbs_natCast]
    rw [if_pos (by omega)]
  rw [hpv]
  have HS := Lib.hid (sign_word (-(n : Int)) (by omega) (by unfold B2559 at *; have : (0:Int) ≤ 2 ^ 2559 := Int.le_of_lt (Int.pow_pos (by decide)); omega))
  have HC := Lib.hid (B2559_cap n (by omega))
  have HRR := Lib.hid (rnd_le_INF n)
  obtain ⟨hrow, k0, k1, k2, k3, f0, f1, f2, f3⟩ := hs
  simp only at hrow k0 k1 k2 k3
  obtain ⟨k39, _⟩ := hrow 39 (by omega)
  have HR := Lib.hid hrow
  have R1 := Lib.hid ((row_zero w).setAll (-(n : Int)))
  have T1 : Hid ((w.alloc (.cells (Array.replicate 40 (.int .u64 0)) 138)).there w.heap.size 0 (WL (-(n : Int))).toArray.size) := Lib.hid ((row_zero w).there (by simp [WL_len]))
  have hi : (Try.prog.info? 138).map (·.size) = some (WL (-(n : Int))).toArray.size := by rw [size138]; simp [WL_len]
  have HI := Lib.hid hi
  have hi2 : (Try.prog.info? 138).map (·.size) = some (WL (n : Int)).toArray.size := by rw [size138]; simp [WL_len]
  have HI2 := Lib.hid hi2
  have B1 := Lib.hid (below_setCells ((Below.refl w.heap.size w).alloc (Nat.le_refl _) (.cells (Array.replicate 40 (.int .u64 0)) 138)) (Nat.le_refl _) 0 (WL (-(n : Int))))
  have L1 : Hid (w.heap.size < ((w.alloc (.cells (Array.replicate 40 (.int .u64 0)) 138)).setCells w.heap.size 0 (WL (-(n : Int)))).heap.size) := Lib.hid (by rw [size_setCells]; simp)
  have HB := Lib.hid hb
  have e0 : (wd (-(n : Int)) 39 / 9223372036854775808 == 1) = true := by rw [HS.out]; exact decide_eq_true (by omega)
  have W39 : (0 : Int) ≤ wd (-(n : Int)) 39 := wd_nn _ _
  have H142 := Lib.hid (fun wx => c142 (-(n : Int)) wx)
  rw [Int.neg_neg] at H142
  clear h2 HS hi hi2 hpv hn
  generalize -(n : Int) = z at *
  generalize wd z 39 = q at *
  go_enter Try.func39, Try.ntmps39
  go_upto_region 8 with fail
  go_cut [4] (fun p wx => p = .pointer (some ⟨w.heap.size, 0, none⟩) ∧ Hid (Row wx w.heap.size (wd z)) ∧ Hid (Below w.heap.size w wx) ∧ Hid (w.heap.size < wx.heap.size))
  case first =>
    clear e0 W39 H142 HC HRR k39 k0 k1 k2 k3 f0 f1 f2 f3
    go_wp2_with (first
      | (refine wpList_load_mid rfl 138 (.tmp 45) rfl b 0 rfl (WL z) _ HR.out.range Try.underlying138 rfl (len138 _) ?_)
      | (refine wpList_store_mid rfl 138 (.tmp 4) (.tmp 46) rfl w.heap.size 0 (WL z).toArray rfl rfl T1.out HI.out (WL_one _) ?_))
    go_meet
    exact ⟨rfl, R1, B1, L1⟩
  case rest =>
    obtain ⟨rfl, hR, hB, hL⟩ := hcut
    clear R1 B1 L1 T1 HI HR k39 k0 k1 k2 k3 f0 f1 f2 f3
    go_upto_if 47 with fail
    go_cut [] (fun wx => Hid (Row wx w.heap.size (wd (n : Int))) ∧ Hid (Below w.heap.size w wx))
    case first =>
      go_wp2_with (first
        | (refine wpList_load_mid rfl 138 (.tmp 4) rfl w.heap.size 0 rfl (WL z) _ hR.out.range Try.underlying138 rfl (len138 _) ?_)
        | (go_at_call 142; fail))
      refine (H142.out _).mono ?_
      rintro e w2 ⟨rfl, hb2⟩
      have R3 := Lib.hid (hR.out.below hb2 hL.out)
      have B3 := Lib.hid (hB.out.trans (hb2.mono hB.out.size))
      have R4 := Lib.hid (R3.out.setAll (n : Int))
      have B4 := Lib.hid (below_setCells B3.out (Nat.le_refl _) 0 (WL (n : Int)))
      have T4 : Hid (w2.there w.heap.size 0 (WL (n : Int)).toArray.size) := Lib.hid (R3.out.there (by simp [WL_len]))
      clear hb2 hR hB hL
      go_wp2_with (refine wpList_store_mid rfl 138 (.tmp 4) (.tmp 49) rfl w.heap.size 0 (WL (n : Int)).toArray rfl rfl T4.out HI2.out (WL_one _) ?_)
      go_meet
      exact ⟨R4, B4⟩
    case rest =>
      obtain ⟨hR4, hB4⟩ := hcut
      clear hR hB hL HI2 H142
      go_wp2_with (first
        | (refine wpList_load_mid rfl 138 (.tmp 4) rfl w.heap.size 0 rfl (WL (n : Int)) _ hR4.out.range Try.underlying138 rfl (len138 _) ?_)
        | (go_at_call 145; fail))
      refine (c145 n _ HC.out).mono ?_
      rintro e w2 ⟨rfl, hb2⟩
      have B2 := Lib.hid (hB4.out.trans (hb2.mono hB4.out.size))
      clear hb2 hB4 hR4 e0 W39
      obtain ⟨r, hr⟩ : ∃ r, r = rnd n := ⟨_, rfl⟩
      rw [← hr] at HRR ⊢
      have HE := Lib.hid hr
      clear hr
      have hneg : ∀ (b : Nat) (w : World), (Op.unary .neg (.float .f64 b)).run Try.prog w = .ok (.float .f64 (Op.negFloat .f64 b)) w := fun _ _ => rfl
      have F1 : Hid (RetF (-(r : Int) - 1) (.returned (.float .f64 (Op.negFloat .f64 r)))) := Lib.hid ⟨_, rfl, U_ng (U_small HRR.out), by
        rw [show Op.negFloat .f64 r = ng r from rfl, pl_ng (U_small HRR.out), pl_small r HRR.out]
        have := HRR.out
        unfold INF at this
        unfold ngP; rw [if_neg (by omega)]; omega⟩
      go_wp2
      go_ret
      rw [← HE.out]
      exact ⟨F1.out, B2.out⟩

theorem c39 (b : Nat) (s : AS) (w : World) (hs : AccAt w b s) (hb : b < w.heap.size) (h1 : -B2559 < s.z) (h2 : s.z < B2559) :
    Calls Try.prog 39 #[.pointer (some ⟨b, 0, none⟩)] w fun e w' => RetF (pV s) e ∧ Below w.heap.size w w' := by
  obtain ⟨z, nan, pos, neg, any⟩ := s
  by_cases ha : (nan || (pos && neg)) = true
  · exact c39n b _ w hs ha
  · have ha := Bool.eq_false_iff.2 ha
    by_cases hc : (pos || neg) = true
    · exact c39i b _ w hs ha hc
    · have hc := Bool.eq_false_iff.2 hc
      rw [Bool.or_eq_false_iff] at ha hc
      obtain ⟨rfl, rfl⟩ := hc
      obtain ⟨rfl, _⟩ := ha
      simp only at h1 h2
      by_cases hz : z < 0
      · obtain ⟨n, rfl⟩ : ∃ n : Nat, z = -(n : Int) := ⟨z.natAbs, by omega⟩
        exact c39m b n any w (by omega) hs hb (by omega)
      · obtain ⟨n, rfl⟩ : ∃ n : Nat, z = (n : Int) := ⟨z.toNat, by omega⟩
        exact c39p b n any w hs hb h2
end Go.Proofs.Ytelalledjbeenaa

namespace Go.Proofs.Ytelalledjbeenaa
open Go.RowKit Fl

def joinS (s t : AS) : AS := ⟨s.z + t.z, s.nan || t.nan, s.pos || t.pos, s.neg || t.neg, s.any || t.any⟩
theorem c38n (b : Nat) (w : World) : Calls Try.prog 38 #[.pointer (some ⟨b, 0, none⟩), .pointer none] w fun e w' => e = .returned (.tuple #[]) ∧ w = w' := by
  go_enter Try.func38, Try.ntmps38
  go_wp2
  refine bodyPost_ret (v := .tuple #[]) (results_none rfl _ _ _) rfl ⟨rfl, rfl⟩

set_option maxRecDepth 100000 in
set_option maxHeartbeats 4000000 in
theorem c38 (b d : Nat) (s t : AS) (w : World) (hs : AccAt w b s) (ht : AccAt w d t) (hb : b < w.heap.size) (hd : d < w.heap.size) (hne : d ≠ b) :
    Calls Try.prog 38 #[.pointer (some ⟨b, 0, none⟩), .pointer (some ⟨d, 0, none⟩)] w fun e w' => e = .returned (.tuple #[]) ∧ AccAt w' b (joinS s t) ∧ Only b w w' := by
  have HS := Lib.hid hs
  have HT := Lib.hid ht
  obtain ⟨J, hJ⟩ : ∃ J, J = joinS s t := ⟨_, rfl⟩
  rw [← hJ]
  have HJ := Lib.hid hJ
  clear hJ
  go_enter Try.func38, Try.ntmps38
  go_upto_region 1 with fail
  go_cut [] (fun wx => Hid (AccAt wx b { s with z := s.z + t.z }) ∧ Hid (Only b w wx))
  case first =>
    clear hs ht
    refine wp_region_rel 12 (fun w' => AccAt w' b s ∧ Only b w w') (fun _ _ v => v = .agg (WL (s.z + t.z)).toArray) (by kernel_rfl) (by kernel_rfl) ⟨HS.out.drew, (Only.refl b w).drew⟩ ?_
    simp only [List.take_succ_cons, List.take_zero, List.drop_succ_cons, List.drop_zero]
    refine rel_move (v := .pointer (some ⟨b, 0, none⟩)) rfl rfl ?_
    simp only [Act.put, List.setIfInBounds_toArray, List.set_cons_succ, List.set_cons_zero]
    refine rel_move (v := .pointer (some ⟨b, 0, none⟩)) rfl rfl ?_
    simp only [Act.put, List.setIfInBounds_toArray, List.set_cons_succ, List.set_cons_zero]
    refine rel_val (v := .pointer (some ⟨b, 0, none⟩)) rfl (fun w' hw => by go_simp) ?_
    simp only [Act.put, List.setIfInBounds_toArray, List.set_cons_succ, List.set_cons_zero]
    refine rel_val (v := .pointer (some ⟨b, 0, none⟩)) rfl (fun w' hw => by go_simp) ?_
    simp only [Act.put, List.setIfInBounds_toArray, List.set_cons_succ, List.set_cons_zero]
    refine rel_load_row b 0 (WL s.z) _ rfl rfl (fun w' hw => hw.1.row.range) Try.underlying138 rfl (len138 _) ?_
    simp only [Act.put, List.setIfInBounds_toArray, List.set_cons_succ, List.set_cons_zero]
    refine rel_move (v := .pointer (some ⟨d, 0, none⟩)) rfl rfl ?_
    simp only [Act.put, List.setIfInBounds_toArray, List.set_cons_succ, List.set_cons_zero]
    refine rel_val (v := .pointer (some ⟨d, 0, none⟩)) rfl (fun w' hw => by go_simp) ?_
    simp only [Act.put, List.setIfInBounds_toArray, List.set_cons_succ, List.set_cons_zero]
    refine rel_val (v := .pointer (some ⟨d, 0, none⟩)) rfl (fun w' hw => by go_simp) ?_
    simp only [Act.put, List.setIfInBounds_toArray, List.set_cons_succ, List.set_cons_zero]
    refine rel_load_row d 0 (WL t.z) _ rfl rfl (fun w' hw => (HT.out.only hw.2 hd hne).row.range) Try.underlying138 rfl (len138 _) ?_
    simp only [Act.put, List.setIfInBounds_toArray, List.set_cons_succ, List.set_cons_zero]
    refine rel_call (f := 143) (args := #[.agg (WL s.z).toArray, .agg (WL t.z).toArray]) rfl (fun w' hw => by go_simp) (fun w' hw => ?_) (fun v hv => ?_)
    · refine (c143 s.z t.z w').mono ?_
      rintro y w'' ⟨rfl, hb2⟩
      exact ⟨_, rfl, rfl, hw.1.below hb2 (by have := hw.2.size; omega), hw.2.below_fresh (hb2.mono hw.2.size)⟩
    rw [hv]
    simp only [Act.put, List.setIfInBounds_toArray, List.set_cons_succ, List.set_cons_zero]
    refine rel_val (v := .pointer (some ⟨b, 0, none⟩)) rfl (fun w' hw => by go_simp) ?_
    simp only [Act.put, List.setIfInBounds_toArray, List.set_cons_succ, List.set_cons_zero]
    refine rel_val (v := .pointer (some ⟨b, 0, none⟩)) rfl (fun w' hw => by go_simp) ?_
    simp only [Act.put, List.setIfInBounds_toArray, List.set_cons_succ, List.set_cons_zero]
    refine rel_nil ?_
    rintro w3 ⟨hA4, hO4⟩
    have hT : w3.there b 0 (WL (s.z + t.z)).toArray.size := hA4.row.there (by simp [WL_len])
    have hi : (Try.prog.info? 138).map (·.size) = some (WL (s.z + t.z)).toArray.size := by rw [size138]; simp [WL_len]
    refine wpList_store_mid rfl 138 (.tmp 17) (.tmp 15) rfl b 0 (WL (s.z + t.z)).toArray rfl rfl hT hi (WL_one _) ?_
    have A5 := Lib.hid (hA4.setRow (s.z + t.z))
    have O5 := Lib.hid (hO4.setCells 0 (WL (s.z + t.z)))
    clear hA4 hO4 hT hi
    go_wp2
    go_meet
    exact ⟨A5, O5⟩
  case rest =>
    obtain ⟨hA, hO⟩ := hcut
    clear hs ht
    have HTT := Lib.hid (And.intro hd hne)
    clear hd hne
    go_upto_region 2 with fail
    go_cut [] (fun wx => Hid (AccAt wx b ⟨s.z + t.z, (s.nan || t.nan), s.pos, s.neg, s.any⟩) ∧ Hid (Only b w wx))
    case first =>
      have A1 := Lib.hid (hA.out.set0 (s.nan || t.nan))
      have O1 := Lib.hid (hO.out.setCell (o := 40) (.bool (s.nan || t.nan)))
      have T := HT.out.only hO.out HTT.out.1 HTT.out.2
      have k := hA.out.c0
      have f := hA.out.f0
      have kt := T.c0
      simp only at k
      clear T
      generalize s.nan = p at *
      cases p
      all_goals
        go_wp2
        go_meet
        exact ⟨A1, O1⟩
    case rest =>
      obtain ⟨hA, hO⟩ := hcut
      go_upto_region 3 with fail
      go_cut [] (fun wx => Hid (AccAt wx b ⟨s.z + t.z, (s.nan || t.nan), (s.pos || t.pos), s.neg, s.any⟩) ∧ Hid (Only b w wx))
      case first =>
        have A1 := Lib.hid (hA.out.set1 (s.pos || t.pos))
        have O1 := Lib.hid (hO.out.setCell (o := 41) (.bool (s.pos || t.pos)))
        have T := HT.out.only hO.out HTT.out.1 HTT.out.2
        have k := hA.out.c1
        have f := hA.out.f1
        have kt := T.c1
        simp only at k
        clear T
        generalize s.pos = p at *
        cases p
        all_goals
          go_wp2
          go_meet
          exact ⟨A1, O1⟩
      case rest =>
        obtain ⟨hA, hO⟩ := hcut
        go_upto_region 4 with fail
        go_cut [] (fun wx => Hid (AccAt wx b ⟨s.z + t.z, (s.nan || t.nan), (s.pos || t.pos), (s.neg || t.neg), s.any⟩) ∧ Hid (Only b w wx))
        case first =>
          have A1 := Lib.hid (hA.out.set2 (s.neg || t.neg))
          have O1 := Lib.hid (hO.out.setCell (o := 42) (.bool (s.neg || t.neg)))
          have T := HT.out.only hO.out HTT.out.1 HTT.out.2
          have k := hA.out.c2
          have f := hA.out.f2
          have kt := T.c2
          simp only at k
          clear T
          generalize s.neg = p at *
          cases p
          all_goals
            go_wp2
            go_meet
            exact ⟨A1, O1⟩
        case rest =>
          obtain ⟨hA, hO⟩ := hcut
          have A1 : Hid (AccAt (wc.setCell ⟨b, 43, none⟩ (.bool (s.any || t.any))) b J) := Lib.hid (by rw [HJ.out]; exact hA.out.set3 (s.any || t.any))
          have O1 := Lib.hid (hO.out.setCell (o := 43) (.bool (s.any || t.any)))
          have T := HT.out.only hO.out HTT.out.1 HTT.out.2
          have k := hA.out.c3
          have f := hA.out.f3
          have kt := T.c3
          simp only at k
          clear T HJ HS HT hA
          generalize s.any = p at *
          cases p
          all_goals
            go_wp2
            refine bodyPost_end (v := .tuple #[]) (results_none rfl _ _ _) rfl ⟨rfl, ?_, ?_⟩
            · exact A1.out
            · exact O1.out
end Go.Proofs.Ytelalledjbeenaa
