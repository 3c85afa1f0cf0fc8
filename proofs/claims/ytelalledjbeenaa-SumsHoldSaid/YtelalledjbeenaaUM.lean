/- Two of the reference's; the walk of SumsLose. -/
import Derived.Test.YtelalledjbeenaaMgUL
import Derived.Test.YtelalledjbeenaaMgSumL
namespace Go.Proofs.Ytelalledjbeenaa
open Go.RowKit Fl

theorem loss_same (x y s t : Nat) (us : U s) (ut : U t) (h : pl s = pl t) : lossP x y s = lossP x y t := by
  rcases (pl_eq_iff us ut).1 h with h | ⟨h1, h2⟩
  · rw [h]
  · unfold lossP; rw [h1, h2, Bool.true_or, if_pos rfl, Bool.true_or, if_pos rfl]
set_option maxRecDepth 100000 in
set_option maxHeartbeats 1000000 in
theorem c86 (x y : Nat) (w : World) (hx : U x) (hy : U y) : Calls Try.prog 86 #[.float .f64 x, .float .f64 y] w fun e w' => TwoRet x y e ∧ Below w.heap.size w w' := by
  have hadd := run_fop (P := Try.prog) .add rfl 24 x y w
  have HP := Lib.hid (pl_fop .add x y w hx hy)
  have HU := Lib.hid (U_fop .add x y w)
  have HX := Lib.hid (And.intro hx hy)
  have B0 := Lib.hid (Bd (Below.refl w.heap.size w) (fopN .add x y))
  have HSZ := Lib.hid (show (w.drewN (fopN .add x y)).heap.size = w.heap.size from rfl)
  clear hx hy
  generalize fop .add x y w = s at *
  generalize w.drewN (fopN .add x y) = w0 at *
  have e0 := neq_self s HU.out
  have e1 : (FloatKind.f64.format.order s s == some Ordering.eq) = !isN s := by rw [← e0]; simp [bne]
  cases hf : fin s
  · have E : Hid (pl 0 = lossP x y s) := Lib.hid (by rw [loss_inf x y s HU.out hf]; decide)
    cases hn : isN s
    · rw [hn] at e0 e1
      have hq := fun w => run_fop (P := Try.prog) .sub rfl 24 s s w
      have hv : ∀ w, (FloatKind.f64.format.order (fop .sub s s w) 0 != some Ordering.eq) = true := fun w => by
        rw [f_ne _ _ (U_fop _ _ _ _) (by unfold U; decide), pl_fop _ _ _ _ HU.out HU.out]
        unfold opP
        rw [atW_pl s HU.out hn, sub_self_inf s HU.out hf]; rfl
      have hv2 : ∀ w, (FloatKind.f64.format.order (fop .sub s s w) 0 == some Ordering.eq) = false := fun w => by
        have := hv w; simpa [bne] using this
      have B1 := Lib.hid (fun a => Bd B0.out a)
      clear hf hn
      go_enter Try.func86, Try.ntmps86
      go_wp2
      go_ret2
      exact ⟨⟨s, 0, rfl, HU.out, HP.out, by unfold U; decide, E.out⟩, B1.out _⟩
    · rw [hn] at e0 e1
      clear hf hn
      go_enter Try.func86, Try.ntmps86
      go_wp2
      go_ret2
      exact ⟨⟨s, 0, rfl, HU.out, HP.out, by unfold U; decide, E.out⟩, B0.out⟩
  · have hn := fin_not_nan hf
    have HN := Lib.hid (And.intro hf hn)
    rw [hn] at e0 e1
    have hq := fun w => run_float_arith (P := Try.prog) w .sub 24 .f64 s s 0 (sub_self_fin s HU.out hf)
    have hv : (FloatKind.f64.format.order 0 0 != some Ordering.eq) = false := by decide
    have hneg : ∀ (b : Nat) (w : World), (Op.unary .neg (.float .f64 b)).run Try.prog w = .ok (.float .f64 (Op.negFloat .f64 b)) w := fun _ _ => rfl
    have hU3 : ∀ u ∈ [x, y, ng s], U u := by
      intro u hu
      simp only [List.mem_cons, List.not_mem_nil, or_false] at hu
      rcases hu with rfl | rfl | rfl
      · exact HX.out.1
      · exact HX.out.2
      · exact U_ng HU.out
    have F9 := Lib.hid (FL_new w0 [x, y, ng s] hU3)
    have F9' : Hid (FL (w0.alloc (.cells #[.float .f64 x, .float .f64 y, .float .f64 (Op.negFloat .f64 s)] 24)) w0.heap.size 0 [x, y, ng s]) := Lib.hid F9.out
    have hl : Hid (lossP x y s = if zk (pV (lostS x y s)) = 0 then 0 else pV (lostS x y s)) := Lib.hid (by
      unfold lossP
      have hi : isI s = false := by
        have := fin_true hf
        unfold isI
        unfold INF at this
        exact decide_eq_false (by omega)
      rw [hn, hi, Bool.or_false, if_neg Bool.false_ne_true])
    clear hf hn F9 hU3
    go_enter Try.func86, Try.ntmps86
    go_wp2_with (go_at_call 121; fail)
    refine (c121 _ 0 3 [x, y, ng s] _ F9'.out (by simp)).mono ?_
    rintro e w5 ⟨⟨r, rfl, hu, hr⟩, hb⟩
    have B5 := Lib.hid (below_of_alloc B0.out hb)
    have HR : Hid (pl r = pV (lostS x y s)) := Lib.hid hr
    have HUR := Lib.hid hu
    have e2 := f_eq r 0 hu (by unfold U; decide)
    rw [HR.out, show pl 0 = 0 by decide] at e2
    clear hb hu hr F9'
    generalize pV (lostS x y s) = P at *
    cases hz : feqP P 0
    · rw [hz] at e2
      have E : Hid (pl r = lossP x y s) := Lib.hid (by
        rw [hl.out, HR.out]
        unfold feqP at hz
        by_cases h0 : zk P = 0
        · rw [if_pos h0]
          rw [decide_eq_true (show (0 : Int) ≠ 9223372036854775807 by decide), decide_eq_true (show zk P = zk 0 by rw [h0]; rfl)] at hz
          have hP : P = 9223372036854775807 := by simpa using hz
          rw [hP] at h0; exact absurd h0 (by decide)
        · rw [if_neg h0])
      clear hz
      go_wp2
      go_ret2
      exact ⟨⟨s, r, rfl, HU.out, HP.out, HUR.out, E.out⟩, B5.out⟩
    · rw [hz] at e2
      have E : Hid (pl 0 = lossP x y s) := Lib.hid (by
        rw [hl.out]
        unfold feqP at hz
        have h0 : zk P = 0 := by
          simp only [Bool.and_eq_true, decide_eq_true_eq] at hz
          rw [hz.2]; rfl
        rw [if_pos h0]; decide)
      clear hz
      go_wp2
      go_ret2
      exact ⟨⟨s, 0, rfl, HU.out, HP.out, by unfold U; decide, E.out⟩, B5.out⟩
set_option maxRecDepth 100000 in
set_option maxHeartbeats 1000000 in
theorem walkSumsLose (x y : Nat) (w : World) (hx : U x) (hy : U y) :
    Calls Try.prog 16 #[.float .f64 x, .float .f64 y] w fun e w' => e = .returned (.bool true) ∧ Below w.heap.size w w' := by
  have HX := Lib.hid (And.intro hx hy)
  clear hx hy
  go_enter Try.func16, Try.ntmps16
  go_wp2_with fail
  refine (c22 _).mono ?_
  rintro e w1 ⟨rfl, hb⟩
  have B1 := Lib.hid hb
  clear hb
  go_wp2_with fail
  refine (c25 x y _ HX.out.1 HX.out.2).mono ?_
  rintro e w2 ⟨⟨s, r, rfl, us, hs, ur, hr⟩, hb⟩
  have B2 := Lib.hid (below_trans B1.out hb)
  have S := Lib.hid (And.intro us hs)
  have R := Lib.hid (And.intro ur hr)
  clear hb us hs ur hr B1
  go_wp2_with fail
  refine (c86 x y _ HX.out.1 HX.out.2).mono ?_
  rintro e w3 ⟨⟨t, q, rfl, ut, ht, uq, hq⟩, hb⟩
  have B3 := Lib.hid (below_trans B2.out hb)
  have T := Lib.hid (And.intro ut ht)
  have Q := Lib.hid (And.intro uq hq)
  clear hb ut ht uq hq B2
  go_wp2_with fail
  refine (c24t s t _ S.out.1 T.out.1 (by rw [S.out.2, T.out.2])).mono ?_
  rintro e w' ⟨rfl, rfl⟩
  go_wp2_with fail
  refine (c24t r q _ R.out.1 Q.out.1 (by rw [R.out.2, Q.out.2]; exact loss_same x y s t S.out.1 T.out.1 (by rw [S.out.2, T.out.2]))).mono ?_
  rintro e w' ⟨rfl, rfl⟩
  go_wp2
  go_ret
  exact ⟨rfl, B3.out⟩
end Go.Proofs.Ytelalledjbeenaa
