/- The walk of BitsNear. -/
import Derived.Test.YtelalledjbeenaaAlive
import Derived.Test.YtelalledjbeenaaArith
import Derived.Deep.DeepCutAuto
namespace Go.Proofs.Ytelalledjbeenaa
open Go.RowKit Fl

theorem cmp_eq0 (p q : Int) : (cmpZ p q == 0) = (p == q) := by
  rw [Bool.eq_iff_iff]; unfold cmpZ; simp; (repeat' split) <;> omega
theorem cmp_neg (p q : Int) : wrap64 (-cmpZ q p) = cmpZ p q := by
  unfold cmpZ wrap64; (repeat' split) <;> omega
theorem cmp_lt {p q : Int} (h : fltP p q = true) : cmpZ p q = -1 := by
  simp [fltP] at h
  have : zk p < zk q := h.2
  unfold zk at this
  unfold cmpZ
  rw [if_pos]
  split at this <;> split at this <;> omega
theorem cmp_range (p q : Int) : cmpZ p q = -1 ∨ cmpZ p q = 0 ∨ cmpZ p q = 1 := by
  unfold cmpZ; (repeat' split) <;> omega
theorem cmp_le_trans {p q r : Int} (h1 : cmpZ p q ≤ 0) (h2 : cmpZ q r ≤ 0) : cmpZ p r ≤ 0 := by
  unfold cmpZ at *; (repeat' split at h1) <;> (repeat' split at h2) <;> (repeat' split) <;> omega

theorem next_lt (p : Int) (_h : p = 9223372036854775807 ∨ (-9218868437227405313 ≤ p ∧ p ≤ 9218868437227405312)) : fltP (nextP p) p = false := by
  have h1 : nextP p = p ∨ zk p < zk (nextP p) := by
    unfold nextP zk; (repeat' split) <;> omega
  unfold fltP
  rcases h1 with h1 | h1
  · rw [h1]; simp
  · simp; omega
theorem prev_gt (p : Int) (_h : p = 9223372036854775807 ∨ (-9218868437227405313 ≤ p ∧ p ≤ 9218868437227405312)) : fltP p (prevP p) = false := by
  have h1 : prevP p = p ∨ zk (prevP p) < zk p := by
    unfold prevP zk; (repeat' split) <;> omega
  unfold fltP
  rcases h1 with h1 | h1
  · rw [h1]; simp
  · simp; omega
theorem next_eq (p : Int) (h : p = 9223372036854775807 ∨ (-9218868437227405313 ≤ p ∧ p ≤ 9218868437227405312)) (hn : p ≠ 9223372036854775807) : feqP (nextP p) p = decide (p = 9218868437227405312) := by
  by_cases c : p = 9218868437227405312
  · subst c; decide
  · rw [decide_eq_false c]
    have h1 : zk p < zk (nextP p) := by
      unfold nextP zk; (repeat' split) <;> omega
    simp [feqP]; omega
theorem prev_eq (p : Int) (h : p = 9223372036854775807 ∨ (-9218868437227405313 ≤ p ∧ p ≤ 9218868437227405312)) (hn : p ≠ 9223372036854775807) : feqP (prevP p) p = decide (p = -9218868437227405313) := by
  by_cases c : p = -9218868437227405313
  · subst c; decide
  · rw [decide_eq_false c]
    have h1 : zk (prevP p) < zk p := by
      unfold prevP zk; (repeat' split) <;> omega
    simp [feqP]; omega
theorem le_max (p : Int) (_h : p = 9223372036854775807 ∨ (-9218868437227405313 ≤ p ∧ p ≤ 9218868437227405312)) (hn : p ≠ 9223372036854775807) : fleP p 9218868437227405311 = !decide (p = 9218868437227405312) := by
  rw [Bool.eq_iff_iff]; simp [fleP, zk]; split <;> omega
theorem ge_min (p : Int) (_h : p = 9223372036854775807 ∨ (-9218868437227405313 ≤ p ∧ p ≤ 9218868437227405312)) (hn : p ≠ 9223372036854775807) : fleP (-9218868437227405312) p = !decide (p = -9218868437227405313) := by
  rw [Bool.eq_iff_iff]; simp [fleP, zk]; split <;> omega

theorem between1 (p q : Int) (_h : p = 9223372036854775807 ∨ (-9218868437227405313 ≤ p ∧ p ≤ 9218868437227405312)) (h1 : fltP p q = true) : fltP q (nextP p) = false := by
  simp [fltP] at *
  intro h2 h3
  have h4 := h1.2
  unfold nextP zk at *
  (repeat' split at h4) <;> (repeat' split) <;> omega
theorem between2 (p q : Int) (_h : p = 9223372036854775807 ∨ (-9218868437227405313 ≤ p ∧ p ≤ 9218868437227405312)) (h1 : fltP (prevP p) q = true) : fltP q p = false := by
  simp [fltP] at *
  intro h2 h3
  have h4 := h1.2
  unfold prevP zk at *
  (repeat' split at h4) <;> (repeat' split) <;> omega

theorem fin_pl (x : Nat) : fin x = decide (-9218868437227405312 ≤ pl x ∧ pl x ≤ 9218868437227405311) := by
  unfold fin
  cases hn : isN x
  · have := isN_false hn
    unfold INF at this
    cases hs : sg x
    · rw [pl_pos hn hs, Bool.eq_iff_iff]; unfold INF; simp; omega
    · rw [pl_neg hn hs, Bool.eq_iff_iff]; unfold INF; simp; omega
  · have := isN_true hn
    rw [pl_nan hn, decide_eq_false (by omega)]
    unfold NP; rfl
theorem hsF (x : Nat) (hx : U x) (hf : fin x = true) : ∀ w, (binOp .sub 24 (.float .f64 x) (.float .f64 x)).run Try.prog w = .ok (.float .f64 0) w :=
  fun w => run_float_arith w .sub 24 .f64 x x 0 (sub_self_fin x hx hf)
theorem hsI (x : Nat) (hx : U x) (hf : fin x = false) : ∀ w, (binOp .sub 24 (.float .f64 x) (.float .f64 x)).run Try.prog w = .ok (.float .f64 (fop .sub x x w)) w.drew := by
  intro w
  rw [run_fop .sub rfl 24 x x w]
  unfold fopN
  rw [sub_self_inf x hx hf]; rfl
theorem nan_sub (x : Nat) (hx : U x) (hf : fin x = false) (w : World) : isN (fop .sub x x w) = true := by
  unfold fop; rw [sub_self_inf x hx hf]; exact (nanBits_cut _ _ _).2
theorem hsI2 (x : Nat) (hx : U x) (hf : fin x = false) : ∀ w, (FloatKind.f64.format.order (fop .sub x x w) 0 == some Ordering.eq) = false := by
  intro w
  rw [f_eq _ _ (U_fop _ _ _ _) U_0, pl_nan (nan_sub x hx hf w)]; rfl
theorem hsI3 (x : Nat) (hx : U x) (hf : fin x = false) : ∀ w, (FloatKind.f64.format.order (fop .sub x x w) 0 != some Ordering.eq) = true := by
  intro w
  rw [f_ne _ _ (U_fop _ _ _ _) U_0, pl_nan (nan_sub x hx hf w)]; rfl

set_option maxRecDepth 100000 in
set_option maxHeartbeats 4000000 in
theorem walkBitsNear (x y z : Nat) (w : World) (hx : U x) (hy : U y) (hz : U z) :
    Calls Try.prog 13 #[.float .f64 x, .float .f64 y, .float .f64 z] w fun e w' => e = .returned (.bool true) ∧ Below w.heap.size w w' := by
  have f1 := f_lt x y hx hy
  go_enter Try.func13, Try.ntmps13
  go_upto_region 2 with (go_at_call 29; refine (c29 _).mono ?_; rintro e w1 ⟨rfl, hb⟩)
  go_cut [46] (fun s wx => s = .bool false ∧ Below w.heap.size w wx)
  case first =>
    have e2 := cmp_neg (pl x) (pl y)
    cases hF : fltP (pl x) (pl y)
    · rw [hF] at f1
      have e1 := cmp_eq0 (pl x) (pl y)
      go_wp2_with (first
        | (go_at_call 44; refine (c44 _ _ _ (by assumption) (by assumption)).mono ?_; rintro e w' ⟨rfl, rfl⟩)
        | (go_at_call 69; refine (c69 _ _ _ (by assumption) (by assumption)).mono ?_; rintro e w' ⟨rfl, rfl⟩))
      all_goals
        go_meet
        exact ⟨rfl, hb⟩
    · rw [hF] at f1
      have e1 := cmp_lt hF
      rw [e1] at e2
      have e3 : (pl x == pl y) = false := by have := cmp_eq0 (pl x) (pl y); rw [e1] at this; rw [← this]; rfl
      go_wp2_with (first
        | (go_at_call 44; refine (c44 _ _ _ (by assumption) (by assumption)).mono ?_; rintro e w' ⟨rfl, rfl⟩)
        | (go_at_call 69; refine (c69 _ _ _ (by assumption) (by assumption)).mono ?_; rintro e w' ⟨rfl, rfl⟩))
      all_goals
        go_meet
        exact ⟨rfl, hb⟩
  case rest =>
    obtain ⟨rfl, hb2⟩ := hcut
    clear hb
    go_upto_region 4 with fail
    go_cut [62] (fun s wx => s = .bool false ∧ Below w.heap.size w wx)
    case first =>
      by_cases d1 : cmpZ (pl x) (pl y) ≤ 0
      · by_cases d2 : cmpZ (pl y) (pl z) ≤ 0
        · have d3 : decide (0 < cmpZ (pl x) (pl z)) = false := by have := cmp_le_trans d1 d2; simp; omega
          go_wp2_with (go_at_call 69; refine (c69 _ _ _ (by assumption) (by assumption)).mono ?_; rintro e w' ⟨rfl, rfl⟩)
          all_goals
            go_meet
            exact ⟨rfl, hb2⟩
        · go_wp2_with (go_at_call 69; refine (c69 _ _ _ (by assumption) (by assumption)).mono ?_; rintro e w' ⟨rfl, rfl⟩)
          all_goals
            go_meet
            exact ⟨rfl, hb2⟩
      · go_wp2_with (go_at_call 69; refine (c69 _ _ _ (by assumption) (by assumption)).mono ?_; rintro e w' ⟨rfl, rfl⟩)
        all_goals
          go_meet
          exact ⟨rfl, hb2⟩
    case rest =>
      obtain ⟨rfl, hb3⟩ := hcut
      clear hb2
      have e0 := neq_self x hx
      cases hn : isN x
      · rw [hn] at e0
        have hr := pl_range x
        have hnn : pl x ≠ 9223372036854775807 := by rw [isN_iff_pl] at hn; exact of_decide_eq_false hn
        have hqr := pl_range y
        go_upto_region 12 with (first
          | (go_at_call 70; refine (c70 _ _ (by assumption)).mono ?_; rintro e w' ⟨⟨r, rfl, hr1, he⟩, rfl⟩; have He := Lib.hid he; clear he)
          | (go_at_call 71; refine (c71 _ _ (by assumption)).mono ?_; rintro e w' ⟨⟨r2, rfl, hr2, he2⟩, rfl⟩; have He2 := Lib.hid he2; clear he2))
        have a1 : (FloatKind.f64.format.order r x == some Ordering.lt) = false := by
          rw [f_lt r x hr1 hx, He.out]; exact next_lt _ hr
        have a2 : (FloatKind.f64.format.order r2 x == some Ordering.gt) = false := by
          rw [f_gt r2 x hr2 hx, He2.out]; exact prev_gt _ hr
        go_cut [113] (fun s wx => s = .bool false ∧ Below w.heap.size w wx)
        case first =>
          have a3 := f_eq r x hr1 hx
          have a4 := f_le x 9218868437227405311 hx U_MAX
          have a5 := f_eq r2 x hr2 hx
          have a6 := f_ge x 18442240474082181119 hx (by unfold U; decide)
          rw [He.out] at a3
          rw [He2.out] at a5
          rw [pl_MAX] at a4
          rw [show pl 18442240474082181119 = -9218868437227405312 from by decide] at a6
          rw [next_eq _ hr hnn] at a3
          rw [prev_eq _ hr hnn] at a5
          rw [le_max _ hr hnn] at a4
          rw [ge_min _ hr hnn] at a6
          by_cases c1 : pl x = 9218868437227405312
          · have c2 : ¬ pl x = -9218868437227405313 := by omega
            rw [decide_eq_true c1] at a3 a4
            rw [decide_eq_false c2] at a5 a6
            clear c1 c2 hr hnn hqr
            go_wp2
            all_goals
              go_meet
              exact ⟨rfl, hb3⟩
          · rw [decide_eq_false c1] at a3 a4
            by_cases c2 : pl x = -9218868437227405313
            · rw [decide_eq_true c2] at a5 a6
              clear c1 c2 hr hnn hqr
              go_wp2
              all_goals
                go_meet
                exact ⟨rfl, hb3⟩
            · rw [decide_eq_false c2] at a5 a6
              clear c1 c2 hr hnn hqr
              go_wp2
              all_goals
                go_meet
                exact ⟨rfl, hb3⟩
        case rest =>
          obtain ⟨rfl, hb4⟩ := hcut
          clear a1 a2 hb3
          go_upto_region 14 with fail
          go_cut [131] (fun s wx => s = .bool false ∧ Below w.heap.size w wx)
          case first =>
            have b1 := f_lt x y hx hy
            have b2 := f_lt y r hy hr1
            have b3 := f_lt r2 y hr2 hy
            have b4 := f_lt y x hy hx
            rw [He.out] at b2
            rw [He2.out] at b3
            cases hF : fltP (pl x) (pl y) <;> cases hH : fltP (prevP (pl x)) (pl y)
            all_goals
              rw [hF] at b1
              rw [hH] at b3
              first
                | rw [between1 _ _ hr hF] at b2
                | clear b2
              first
                | rw [between2 _ _ hr hH] at b4
                | rw [(fltP_not hF).2] at b4
                | clear b4
              clear hF hH hr hnn hqr f1
              go_wp2
              all_goals
                go_meet
                exact ⟨rfl, hb4⟩
          case rest =>
            obtain ⟨rfl, hb5⟩ := hcut
            clear hb4 f1 hqr
            have z1 : (FloatKind.f64.format.order 0 0 == some Ordering.eq) = true := by decide
            have z2 : (FloatKind.f64.format.order 0 0 != some Ordering.eq) = false := by decide
            have x0 := f_ne x 0 hx U_0
            rw [pl_0] at x0
            cases hf : fin x
            · have hs := hsI x hx hf
              have hs2 := hsI2 x hx hf
              clear hr hnn x0 z1 z2
              go_wp2
              go_ret
              exact ⟨rfl, hb5.drew⟩
            · have hs := hsF x hx hf
              rw [fin_pl] at hf
              have hf := of_decide_eq_true hf
              by_cases hz : pl x = 0 ∨ pl x = -1
              · have e : feqP (pl x) 0 = true := by simp [feqP, zk]; omega
                rw [e] at x0
                clear hr hnn hf hz e
                go_wp2
                go_ret
                exact ⟨rfl, hb5⟩
              · have e : feqP (pl x) 0 = false := by simp [feqP, zk]; omega
                rw [e] at x0
                clear e
                have hN : nextP (pl x) = pl x + 1 := by unfold nextP; rw [if_neg (by omega), if_neg hz]
                have hP : prevP (pl x) = pl x - 1 := by unfold prevP; rw [if_neg (by omega), if_neg hz]
                have He' : pl r = pl x + 1 := He.out.trans hN
                have He2' : pl r2 = pl x - 1 := He2.out.trans hP
                clear hN hP He He2
                go_upto_region 17 with fail
                go_cut [157] (fun s wx => s = .bool false ∧ Below w.heap.size w wx)
                case first =>
                  have n0 := f_ne r 0 hr1 U_0
                  rw [pl_0, He'] at n0
                  have hfr := fin_pl r
                  rw [He'] at hfr
                  cases hg : fin r
                  · have hsr := hsI r hr1 hg
                    have hsr2 := hsI2 r hr1 hg
                    clear hr hnn hf hz n0 hfr hg He' He2'
                    go_wp2
                    all_goals
                      go_meet
                      exact ⟨rfl, by first | exact hb5 | exact hb5.drew⟩
                  · have hsr := hsF r hr1 hg
                    by_cases hz2 : pl x = -2
                    · have e : feqP (pl x + 1) 0 = true := by simp [feqP, zk]; omega
                      rw [e] at n0
                      clear hr hnn hf hz hfr hg He' He2' hz2 e
                      go_wp2
                      all_goals
                        go_meet
                        exact ⟨rfl, by first | exact hb5 | exact hb5.drew⟩
                    · have e : feqP (pl x + 1) 0 = false := by simp [feqP, zk]; omega
                      rw [e] at n0
                      have hfr' := of_decide_eq_true (hfr.symm.trans hg)
                      have hpn : prevP (pl r) = pl x := by rw [He']; unfold prevP; rw [if_neg (by omega), if_neg (by omega)]; omega
                      have HPN := Lib.hid hpn
                      clear hr hnn hf hz hfr hg He' He2' hz2 e hfr' hpn
                      go_wp2_with (first
                        | (go_at_call 71; refine (c71 _ _ (by assumption)).mono ?_; rintro e w' ⟨⟨r3, rfl, hr3, he3⟩, rfl⟩; rw [HPN.out] at he3)
                        | (go_at_call 44; refine (c44 _ _ _ (by assumption) (by assumption)).mono ?_; rintro e w' ⟨rfl, rfl⟩))
                      all_goals
                        go_meet
                        exact ⟨rfl, by first | exact hb5 | exact hb5.drew⟩
                case rest =>
                  obtain ⟨rfl, hb6⟩ := hcut
                  have n0 := f_eq r2 0 hr2 U_0
                  rw [pl_0, He2'] at n0
                  have hfr := fin_pl r2
                  rw [He2'] at hfr
                  cases hg : fin r2
                  · have hsr := hsI r2 hr2 hg
                    have hsr2 := hsI3 r2 hr2 hg
                    clear hr hnn hf hz n0 hfr hg He' He2' hb5
                    go_wp2
                    all_goals
                      go_ret
                      exact ⟨rfl, by first | exact hb6 | exact hb6.drew⟩
                  · have hsr := hsF r2 hr2 hg
                    by_cases hz2 : pl x = 1
                    · have e : feqP (pl x - 1) 0 = true := by simp [feqP, zk]; omega
                      rw [e] at n0
                      clear hr hnn hf hz hfr hg He' He2' hz2 e hb5
                      go_wp2
                      all_goals
                        go_ret
                        exact ⟨rfl, by first | exact hb6 | exact hb6.drew⟩
                    · have e : feqP (pl x - 1) 0 = false := by simp [feqP, zk]; omega
                      rw [e] at n0
                      have hfr' := of_decide_eq_true (hfr.symm.trans hg)
                      have hpn : nextP (pl r2) = pl x := by rw [He2']; unfold nextP; rw [if_neg (by omega), if_neg (by omega)]; omega
                      have HPN := Lib.hid hpn
                      clear hr hnn hf hz hfr hg He' He2' hz2 e hfr' hpn hb5
                      go_wp2_with (first
                        | (go_at_call 70; refine (c70 _ _ (by assumption)).mono ?_; rintro e w' ⟨⟨r3, rfl, hr3, he3⟩, rfl⟩; rw [HPN.out] at he3)
                        | (go_at_call 44; refine (c44 _ _ _ (by assumption) (by assumption)).mono ?_; rintro e w' ⟨rfl, rfl⟩))
                      all_goals
                        go_ret
                        exact ⟨rfl, by first | exact hb6 | exact hb6.drew⟩
      · rw [hn] at e0
        have hp := pl_nan hn
        have hc : 0 ≤ cmpZ (pl x) (pl y) := by
          rw [hp]; unfold cmpZ NP; have := pl_range y; (repeat' split) <;> omega
        have HP := Lib.hid hp
        clear hp
        go_wp2_with (first
          | (go_at_call 69; refine (c69 _ _ _ (by assumption) (by assumption)).mono ?_; rintro e w' ⟨rfl, rfl⟩)
          | (go_at_call 70; refine (c70 _ _ (by assumption)).mono ?_; rintro e w' ⟨⟨r, rfl, hr, he⟩, rfl⟩; have g1 : (FloatKind.f64.format.order r r != some Ordering.eq) = true := (by rw [neq_self r hr, isN_iff_pl, he, HP.out]; rfl); clear he)
          | (go_at_call 71; refine (c71 _ _ (by assumption)).mono ?_; rintro e w' ⟨⟨r2, rfl, hr2, he2⟩, rfl⟩; have g2 : (FloatKind.f64.format.order r2 r2 != some Ordering.eq) = true := (by rw [neq_self r2 hr2, isN_iff_pl, he2, HP.out]; rfl); clear he2))
        go_ret
        exact ⟨rfl, hb3⟩
end Go.Proofs.Ytelalledjbeenaa
