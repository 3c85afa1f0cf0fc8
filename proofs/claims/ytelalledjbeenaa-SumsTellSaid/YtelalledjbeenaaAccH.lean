/- An Acc: Value. -/
import Derived.Test.YtelalledjbeenaaAccG
namespace Go.Proofs.Ytelalledjbeenaa
open Go.RowKit Fl

/-- the place of what an Acc tells -/
def pV (s : AS) : Int :=
  if s.nan || (s.pos && s.neg) then 9223372036854775807 else if s.pos then 9218868437227405312 else if s.neg then -9218868437227405313
  else if s.z < 0 then -(rnd s.z.natAbs : Int) - 1 else if rnd s.z.natAbs = 0 ∧ s.any = false then -1 else (rnd s.z.natAbs : Int)
theorem c144 (w : World) : Calls Try.prog 144 #[] w fun e w' => e = .returned (.float .f64 QN) ∧ w = w' := by
  go_enter Try.func144, Try.ntmps144
  go_wp2_with (go_at_call 135; refine (c135 _).mono ?_; rintro e w' ⟨rfl, rfl⟩)
  go_ret
  exact ⟨rfl, rfl⟩
theorem c131 (w : World) : Calls Try.prog 131 #[] w fun e w' => e = .returned (.float .f64 9223372036854775808) ∧ w = w' := by
  go_enter Try.func131, Try.ntmps131
  go_wp2_with (go_at_call 175; refine (c175 0 13830554455654793216 _ (by unfold U; decide) (by unfold U; decide)).mono ?_; rintro e w' ⟨rfl, rfl⟩)
  go_ret
  exact ⟨ret_float (by decide), rfl⟩
def B2559 : Int := 2 ^ 2559
theorem sign_word (z : Int) (h1 : -B2559 ≤ z) (h2 : z < B2559) : (wd z 39 / 9223372036854775808 == 1) = decide (z < 0) := by
  unfold wd
  rw [show 64 * 39 = 2496 by rfl]
  have hP : B2559 = 9223372036854775808 * (2 : Int) ^ 2496 := by unfold B2559; rw [show (9223372036854775808 : Int) = 2 ^ 63 by rfl, ← Int.pow_add]
  have hp : (0 : Int) < 2 ^ 2496 := Int.pow_pos (by decide)
  rw [hP] at h1 h2
  generalize (2 : Int) ^ 2496 = p at *
  have hq2 : z / p < 9223372036854775808 := Int.ediv_lt_of_lt_mul hp h2
  have hq1 : -9223372036854775808 ≤ z / p := Int.le_ediv_of_mul_le hp (by omega)
  have hs : z / p < 0 ↔ z < 0 := ⟨fun h => by have := fun h0 : 0 ≤ z => Int.ediv_nonneg h0 (Int.le_of_lt hp); omega, fun h => Int.ediv_lt_of_lt_mul hp (by omega)⟩
  generalize z / p = q at *
  by_cases h0 : z < 0
  · have := hs.2 h0
    rw [decide_eq_true h0]; simp; omega
  · have : ¬ q < 0 := fun h => h0 (hs.1 h)
    rw [decide_eq_false h0]; simp; omega
theorem B2559_cap (n : Nat) (h : (n : Int) ≤ B2559) : n < 2 ^ (64 * CAP) := by
  have h2 : B2559 = ((2 ^ 2559 : Nat) : Int) := by unfold B2559; exact (Int.natCast_pow 2 2559).symm
  have h3 : n ≤ 2 ^ 2559 := by rw [h2] at h; exact Int.ofNat_le.1 h
  have h4 : ∀ k m : Nat, k < m → 2 ^ k < 2 ^ m := fun k m h => Nat.pow_lt_pow_right (by decide) h
  exact Nat.lt_of_le_of_lt h3 (h4 2559 (64 * CAP) (by rw [CAP_eq]; decide))
theorem wd_nn (z : Int) (i : Nat) : 0 ≤ wd z i := by unfold wd; exact Int.emod_nonneg _ (by decide)

theorem AS.boolsN (s : AS) (h : (s.nan || (s.pos && s.neg)) = true) : pV s = 9223372036854775807 := by unfold pV; rw [if_pos h]
set_option maxRecDepth 100000 in
set_option maxHeartbeats 1000000 in
theorem c39n (b : Nat) (s : AS) (w : World) (hs : AccAt w b s) (h : (s.nan || (s.pos && s.neg)) = true) :
    Calls Try.prog 39 #[.pointer (some ⟨b, 0, none⟩)] w fun e w' => RetF (pV s) e ∧ Below w.heap.size w w' := by
  rw [s.boolsN h]
  obtain ⟨_, k0, k1, k2, k3, f0, f1, f2, f3⟩ := hs
  obtain ⟨z, nan, pos, neg, any⟩ := s
  simp only at h k0 k1 k2 k3
  have hq : RetF 9223372036854775807 (.returned (.float .f64 QN)) := ⟨QN, rfl, by unfold U QN; decide, by decide⟩
  have H := Lib.hid hq
  clear hq
  cases nan <;> cases pos <;> cases neg <;> first | exact absurd h (by decide) | skip
  all_goals
    clear h
    go_enter Try.func39, Try.ntmps39
    go_wp2_with (go_at_call 144; refine (c144 _).mono ?_; rintro e w' ⟨rfl, rfl⟩)
    go_ret
    exact ⟨H.out, Below.refl _ _⟩
set_option maxRecDepth 100000 in
set_option maxHeartbeats 1000000 in
theorem c39i (b : Nat) (s : AS) (w : World) (hs : AccAt w b s) (h : (s.nan || (s.pos && s.neg)) = false) (h2 : (s.pos || s.neg) = true) :
    Calls Try.prog 39 #[.pointer (some ⟨b, 0, none⟩)] w fun e w' => RetF (pV s) e ∧ Below w.heap.size w w' := by
  obtain ⟨_, k0, k1, k2, k3, f0, f1, f2, f3⟩ := hs
  obtain ⟨z, nan, pos, neg, any⟩ := s
  simp only at h h2 k0 k1 k2 k3
  have hp : RetF 9218868437227405312 (.returned (.float .f64 9218868437227405312)) := ⟨_, rfl, by unfold U; decide, by decide⟩
  have hn : RetF (-9218868437227405313) (.returned (.float .f64 18442240474082181120)) := ⟨_, rfl, by unfold U; decide, by decide⟩
  have HP := Lib.hid hp
  have HN := Lib.hid hn
  clear hp hn
  cases nan <;> cases pos <;> cases neg <;> first | exact absurd h (by decide) | exact absurd h2 (by decide) | skip
  all_goals
    go_enter Try.func39, Try.ntmps39
    go_wp2_with (first | (go_at_call 137; refine (c137p _).mono ?_; rintro e w' ⟨rfl, rfl⟩) | (go_at_call 137; refine (c137n _).mono ?_; rintro e w' ⟨rfl, rfl⟩))
    go_ret
    first
    | exact ⟨HP.out, Below.refl _ _⟩
    | exact ⟨HN.out, Below.refl _ _⟩

theorem pl_small (r : Nat) (h : r ≤ INF) : pl r = (r : Int) := by
  have := pl_word false r h
  rw [if_neg (by decide)] at this
  exact this
theorem U_small {r : Nat} (h : r ≤ INF) : U r := by unfold U; unfold INF at h; omega
theorem eq_zero_false (r : Nat) (h : r ≤ INF) (h0 : r ≠ 0) : (FloatKind.f64.format.order r 0 == some Ordering.eq) = false := by
  rw [f_eq r 0 (U_small h) (by unfold U; decide), pl_small r h, pl_small 0 (by unfold INF; omega)]
  unfold feqP zk
  rw [if_neg (by omega), if_neg (by omega), decide_eq_false (show ¬ ((r : Int) = ((0 : Nat) : Int)) by omega), Bool.and_false]
theorem RetF_small (r : Nat) (h : r ≤ INF) : RetF (r : Int) (.returned (.float .f64 r)) := ⟨r, rfl, U_small h, pl_small r h⟩
theorem rnd_le_INF (n : Nat) : rnd n ≤ INF := by unfold rnd; exact Nat.min_le_right _ _
set_option maxRecDepth 100000 in
set_option maxHeartbeats 2000000 in
/-- not less than nought -/
theorem c39p (b n : Nat) (any : Bool) (w : World) (hs : AccAt w b ⟨(n : Int), false, false, false, any⟩) (hb : b < w.heap.size) (h2 : (n : Int) < B2559) :
    Calls Try.prog 39 #[.pointer (some ⟨b, 0, none⟩)] w fun e w' => RetF (pV ⟨(n : Int), false, false, false, any⟩) e ∧ Below w.heap.size w w' := by
  have hpv : pV ⟨(n : Int), false, false, false, any⟩ = if rnd n = 0 ∧ any = false then -1 else (rnd n : Int) := by
    unfold pV
    simp only [Bool.false_and, Bool.or_false, Bool.false_eq_true, if_false, Int.natAbs_natCast]
    rw [if_neg (by omega)]
  rw [hpv]
  obtain ⟨p, hp⟩ : ∃ p : Int, p = if rnd n = 0 ∧ any = false then -1 else (rnd n : Int) := ⟨_, rfl⟩
  rw [← hp]
  have HP := Lib.hid hp
  clear hp
  have HS := Lib.hid (sign_word (n : Int) (by unfold B2559 at *; have : (0:Int) ≤ 2 ^ 2559 := Int.le_of_lt (Int.pow_pos (by decide)); omega) h2)
  have HC := Lib.hid (B2559_cap n (by omega))
  have hr := rnd_le_INF n
  obtain ⟨hrow, k0, k1, k2, k3, f0, f1, f2, f3⟩ := hs
  simp only at hrow k0 k1 k2 k3
  obtain ⟨k39, _⟩ := hrow 39 (by omega)
  have HR := Lib.hid hrow
  have R1 := Lib.hid ((row_zero w).setAll (n : Int))
  have T1 : Hid ((w.alloc (.cells (Array.replicate 40 (.int .u64 0)) 138)).there w.heap.size 0 (WL (n : Int)).toArray.size) := Lib.hid ((row_zero w).there (by simp [WL_len]))
  have hi : (Try.prog.info? 138).map (·.size) = some (WL (n : Int)).toArray.size := by rw [size138]; simp [WL_len]
  have HI := Lib.hid hi
  have B1 := Lib.hid (below_setCells ((Below.refl w.heap.size w).alloc (Nat.le_refl _) (.cells (Array.replicate 40 (.int .u64 0)) 138)) (Nat.le_refl _) 0 (WL (n : Int)))
  have L1 : Hid (w.heap.size < ((w.alloc (.cells (Array.replicate 40 (.int .u64 0)) 138)).setCells w.heap.size 0 (WL (n : Int))).heap.size) := Lib.hid (by rw [size_setCells]; simp)
  have HB := Lib.hid hb
  have e0 : (wd (n : Int) 39 / 9223372036854775808 == 1) = false := by rw [HS.out]; exact decide_eq_false (by omega)
  clear h2 HS hi hpv
  have W39 : (0 : Int) ≤ wd (n : Int) 39 := wd_nn _ _
  generalize wd (n : Int) 39 = q at *
  go_enter Try.func39, Try.ntmps39
  go_upto_region 8 with fail
  go_cut [4] (fun p wx => p = .pointer (some ⟨w.heap.size, 0, none⟩) ∧ Hid (Row wx w.heap.size (wd (n : Int))) ∧ Hid (Below w.heap.size w wx) ∧ Hid (w.heap.size < wx.heap.size))
  case first =>
    go_wp2_with (first
      | (refine wpList_load_mid rfl 138 (.tmp 45) rfl b 0 rfl (WL (n : Int)) _ HR.out.range Try.underlying138 rfl (len138 _) ?_)
      | (refine wpList_store_mid rfl 138 (.tmp 4) (.tmp 46) rfl w.heap.size 0 (WL (n : Int)).toArray rfl rfl T1.out HI.out (WL_one _) ?_))
    go_meet
    exact ⟨rfl, R1, B1, L1⟩
  case rest =>
    obtain ⟨rfl, hR, hB, hL⟩ := hcut
    clear R1 B1 L1 T1 HI HR
    go_wp2_with (first
      | (refine wpList_load_mid rfl 138 (.tmp 4) rfl w.heap.size 0 rfl (WL (n : Int)) _ hR.out.range Try.underlying138 rfl (len138 _) ?_)
      | (go_at_call 145; fail))
    refine (c145 n _ HC.out).mono ?_
    rintro e w2 ⟨rfl, hb2⟩
    have B2 := Lib.hid (hB.out.trans (hb2.mono hB.out.size))
    have k3' : w2.cell? ⟨b, 43, none⟩ = some (.bool any) := (B2.out.cell (p := ⟨b, 43, none⟩) HB.out).trans k3
    have f3' : w2.frozen? ⟨b, 43, none⟩ = false := (B2.out.frozen (p := ⟨b, 43, none⟩) HB.out).trans f3
    clear k3 f3 k0 k1 k2 f0 f1 f2 hb2 hB hR hL k39 e0 W39
    generalize rnd n = r at *
    by_cases h0 : r = 0
    · subst h0
      have e1 : (FloatKind.f64.format.order 0 0 == some Ordering.eq) = true := by decide
      clear hr
      cases any
      · have F2 : Hid (RetF p (.returned (.float .f64 9223372036854775808))) := Lib.hid ⟨_, rfl, by unfold U; decide, by rw [HP.out, if_pos ⟨rfl, rfl⟩]; decide⟩
        clear HP
        go_wp2_with (go_at_call 131; refine (c131 _).mono ?_; rintro e w' ⟨rfl, rfl⟩)
        go_ret
        exact ⟨F2.out, B2.out⟩
      · have F2 : Hid (RetF p (.returned (.float .f64 0))) := Lib.hid ⟨_, rfl, by unfold U; decide, by rw [HP.out, if_neg (by decide)]; decide⟩
        clear HP
        go_wp2
        go_ret
        exact ⟨F2.out, B2.out⟩
    · have e1 := eq_zero_false r hr h0
      have F2 : Hid (RetF p (.returned (.float .f64 r))) := Lib.hid (by rw [HP.out, if_neg (fun h => h0 h.1)]; exact RetF_small r hr)
      clear hr h0 HP
      go_wp2
      go_ret
      exact ⟨F2.out, B2.out⟩

end Go.Proofs.Ytelalledjbeenaa
