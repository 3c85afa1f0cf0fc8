/- An Acc: Value, less than nought. -/
import Derived.Test.YtelalledjbeenaaAccH
namespace Go.Proofs.Ytelalledjbeenaa
open Go.RowKit Fl

set_option maxRecDepth 100000 in
set_option maxHeartbeats 2000000 in
/-- less than nought -/
theorem c39m (b n : Nat) (any : Bool) (w : World) (hn : 0 < n) (hs : AccAt w b ⟨-(n : Int), false, false, false, any⟩) (hb : b < w.heap.size) (h2 : (n : Int) < B2559) :
    Calls Try.prog 39 #[.pointer (some ⟨b, 0, none⟩)] w fun e w' => RetF (pV ⟨-(n : Int), false, false, false, any⟩) e ∧ Below w.heap.size w w' := by
  have hpv : pV ⟨-(n : Int), false, false, false, any⟩ = -(rnd n : Int) - 1 := by
    unfold pV
    simp only [Bool.false_and, Bool.or_false, Bool.false_eq_true, if_false, Int.natAbs_neg, Int.natAbs_natCast]
    rw [if_pos (by omega)]
  rw [hpv]
  have HS := Lib.hid (sign_word (-(n : Int)) (by omega) (by unfold B2559 at *; have : (0:Int) ≤ 2 ^ 2559 := Int.le_of_lt (Int.pow_pos (by decide)); omega))
  have HC := Lib.hid (B2559_cap n (by omega))
  have HRR := Lib.hid (rnd_le_INF n)
  obtain ⟨hrow, k0, k1, k2, k3, f0, f1, f2, f3⟩ := hs
  simp only at hrow k0 k1 k2 k3
  obtain ⟨k39, _⟩ := hrow 39 (by omega)
  have HR := Lib.hid hrow
  have R1 := Lib.hid ((row_zero w).setAll (-(n : Int)))
  have T1 : Hid ((w.alloc (.cells (Array.replicate 40 (.int .u64 0)) 138)).there w.heap.size 0 (WL (-(n : Int))).toArray.size) := Lib.hid ((row_zero w).there (by simp [WL_len]))
  have hi : (Try.prog.info? 138).map (·.size) = some (WL (-(n : Int))).toArray.size := by rw [size138]; simp [WL_len]
  have HI := Lib.hid hi
  have hi2 : (Try.prog.info? 138).map (·.size) = some (WL (n : Int)).toArray.size := by rw [size138]; simp [WL_len]
  have HI2 := Lib.hid hi2
  have B1 := Lib.hid (below_setCells ((Below.refl w.heap.size w).alloc (Nat.le_refl _) (.cells (Array.replicate 40 (.int .u64 0)) 138)) (Nat.le_refl _) 0 (WL (-(n : Int))))
  have L1 : Hid (w.heap.size < ((w.alloc (.cells (Array.replicate 40 (.int .u64 0)) 138)).setCells w.heap.size 0 (WL (-(n : Int)))).heap.size) := Lib.hid (by rw [size_setCells]; simp)
  have HB := Lib.hid hb
  have e0 : (wd (-(n : Int)) 39 / 9223372036854775808 == 1) = true := by rw [HS.out]; exact decide_eq_true (by omega)
  have W39 : (0 : Int) ≤ wd (-(n : Int)) 39 := wd_nn _ _
  have H142 := Lib.hid (fun wx => c142 (-(n : Int)) wx)
  rw [Int.neg_neg] at H142
  clear h2 HS hi hi2 hpv hn
  generalize -(n : Int) = z at *
  generalize wd z 39 = q at *
  go_enter Try.func39, Try.ntmps39
  go_upto_region 8 with fail
  go_cut [4] (fun p wx => p = .pointer (some ⟨w.heap.size, 0, none⟩) ∧ Hid (Row wx w.heap.size (wd z)) ∧ Hid (Below w.heap.size w wx) ∧ Hid (w.heap.size < wx.heap.size))
  case first =>
    clear e0 W39 H142 HC HRR k39 k0 k1 k2 k3 f0 f1 f2 f3
    go_wp2_with (first
      | (refine wpList_load_mid rfl 138 (.tmp 45) rfl b 0 rfl (WL z) _ HR.out.range Try.underlying138 rfl (len138 _) ?_)
      | (refine wpList_store_mid rfl 138 (.tmp 4) (.tmp 46) rfl w.heap.size 0 (WL z).toArray rfl rfl T1.out HI.out (WL_one _) ?_))
    go_meet
    exact ⟨rfl, R1, B1, L1⟩
  case rest =>
    obtain ⟨rfl, hR, hB, hL⟩ := hcut
    clear R1 B1 L1 T1 HI HR k39 k0 k1 k2 k3 f0 f1 f2 f3
    go_upto_if 47 with fail
    go_cut [] (fun wx => Hid (Row wx w.heap.size (wd (n : Int))) ∧ Hid (Below w.heap.size w wx))
    case first =>
      go_wp2_with (first
        | (refine wpList_load_mid rfl 138 (.tmp 4) rfl w.heap.size 0 rfl (WL z) _ hR.out.range Try.underlying138 rfl (len138 _) ?_)
        | (go_at_call 142; fail))
      refine (H142.out _).mono ?_
      rintro e w2 ⟨rfl, hb2⟩
      have R3 := Lib.hid (hR.out.below hb2 hL.out)
      have B3 := Lib.hid (hB.out.trans (hb2.mono hB.out.size))
      have R4 := Lib.hid (R3.out.setAll (n : Int))
      have B4 := Lib.hid (below_setCells B3.out (Nat.le_refl _) 0 (WL (n : Int)))
      have T4 : Hid (w2.there w.heap.size 0 (WL (n : Int)).toArray.size) := Lib.hid (R3.out.there (by simp [WL_len]))
      clear hb2 hR hB hL
      go_wp2_with (refine wpList_store_mid rfl 138 (.tmp 4) (.tmp 49) rfl w.heap.size 0 (WL (n : Int)).toArray rfl rfl T4.out HI2.out (WL_one _) ?_)
      go_meet
      exact ⟨R4, B4⟩
    case rest =>
      obtain ⟨hR4, hB4⟩ := hcut
      clear hR hB hL HI2 H142
      go_wp2_with (first
        | (refine wpList_load_mid rfl 138 (.tmp 4) rfl w.heap.size 0 rfl (WL (n : Int)) _ hR4.out.range Try.underlying138 rfl (len138 _) ?_)
        | (go_at_call 145; fail))
      refine (c145 n _ HC.out).mono ?_
      rintro e w2 ⟨rfl, hb2⟩
      have B2 := Lib.hid (hB4.out.trans (hb2.mono hB4.out.size))
      clear hb2 hB4 hR4 e0 W39
      obtain ⟨r, hr⟩ : ∃ r, r = rnd n := ⟨_, rfl⟩
      rw [← hr] at HRR ⊢
      have HE := Lib.hid hr
      clear hr
      have hneg : ∀ (b : Nat) (w : World), (Op.unary .neg (.float .f64 b)).run Try.prog w = .ok (.float .f64 (Op.negFloat .f64 b)) w := fun _ _ => rfl
      have F1 : Hid (RetF (-(r : Int) - 1) (.returned (.float .f64 (Op.negFloat .f64 r)))) := Lib.hid ⟨_, rfl, U_ng (U_small HRR.out), by
        rw [show Op.negFloat .f64 r = ng r from rfl, pl_ng (U_small HRR.out), pl_small r HRR.out]
        have := HRR.out
        unfold INF at this
        unfold ngP; rw [if_neg (by omega)]; omega⟩
      go_wp2
      go_ret
      rw [← HE.out]
      exact ⟨F1.out, B2.out⟩

theorem c39 (b : Nat) (s : AS) (w : World) (hs : AccAt w b s) (hb : b < w.heap.size) (h1 : -B2559 < s.z) (h2 : s.z < B2559) :
    Calls Try.prog 39 #[.pointer (some ⟨b, 0, none⟩)] w fun e w' => RetF (pV s) e ∧ Below w.heap.size w w' := by
  obtain ⟨z, nan, pos, neg, any⟩ := s
  by_cases ha : (nan || (pos && neg)) = true
  · exact c39n b _ w hs ha
  · have ha := Bool.eq_false_iff.2 ha
    by_cases hc : (pos || neg) = true
    · exact c39i b _ w hs ha hc
    · have hc := Bool.eq_false_iff.2 hc
      rw [Bool.or_eq_false_iff] at ha hc
      obtain ⟨rfl, rfl⟩ := hc
      obtain ⟨rfl, _⟩ := ha
      simp only at h1 h2
      by_cases hz : z < 0
      · obtain ⟨n, rfl⟩ : ∃ n : Nat, z = -(n : Int) := ⟨z.natAbs, by omega⟩
        exact c39m b n any w (by omega) hs hb (by omega)
      · obtain ⟨n, rfl⟩ : ∃ n : Nat, z = (n : Int) := ⟨z.toNat, by omega⟩
        exact c39p b n any w hs hb h2
end Go.Proofs.Ytelalledjbeenaa
