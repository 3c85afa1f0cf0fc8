/- The walk of SumsTwo. -/
import Derived.Test.YtelalledjbeenaaSumL
namespace Go.Proofs.Ytelalledjbeenaa
open Go.RowKit Fl

theorem c24t (x y : Nat) (w : World) (hx : U x) (hy : U y) (h : pl x = pl y) : Calls Try.prog 24 #[.float .f64 x, .float .f64 y] w fun e w' => e = .returned (.bool true) ∧ w = w' :=
  (c24 x y w hx hy).mono fun e w' ⟨he, hw⟩ => ⟨by rw [he, h, beq_self_eq_true], hw⟩
set_option maxRecDepth 100000 in
set_option maxHeartbeats 2000000 in
theorem walkSumsTwo (x y : Nat) (w : World) (hx : U x) (hy : U y) :
    Calls Try.prog 4 #[.float .f64 x, .float .f64 y] w fun e w' => e = .returned (.bool true) ∧ Below w.heap.size w w' := by
  have HX := Lib.hid (And.intro hx hy)
  clear hx hy
  go_enter Try.func4, Try.ntmps4
  go_wp2_with fail
  refine (c22 _).mono ?_
  rintro e w1 ⟨rfl, hb⟩
  have B1 := Lib.hid hb
  clear hb
  go_wp2_with fail
  refine (c25 x y _ HX.out.1 HX.out.2).mono ?_
  rintro e w2 ⟨⟨s, r, rfl, us, hs, ur, hr⟩, hb⟩
  have B2 := Lib.hid (below_trans B1.out hb)
  have S := Lib.hid (And.intro us hs)
  have R := Lib.hid (And.intro ur hr)
  clear hb us hs ur hr B1
  go_wp2_with fail
  refine (c25 y x _ HX.out.2 HX.out.1).mono ?_
  rintro e w3 ⟨⟨t, q, rfl, ut, ht, uq, hq⟩, hb⟩
  have B3 := Lib.hid (below_trans B2.out hb)
  have T := Lib.hid (And.intro ut ht)
  have Q := Lib.hid (And.intro uq hq)
  clear hb ut ht uq hq B2
  go_wp2_with fail
  refine (c24t s t _ S.out.1 T.out.1 (by rw [S.out.2, T.out.2, opP_add_comm])).mono ?_
  rintro e w' ⟨rfl, rfl⟩
  go_wp2_with fail
  refine (c24t r q _ R.out.1 Q.out.1 (by rw [R.out.2, Q.out.2]; exact loss_comm x y s t S.out.1 T.out.1 S.out.2 T.out.2)).mono ?_
  rintro e w' ⟨rfl, rfl⟩
  have F0 : Hid (FL (w3.alloc (.cells #[.float .f64 x, .float .f64 y] 24)) w3.heap.size 0 [x, y]) := Lib.hid (FL_new w3 [x, y] (by
    intro u hu
    simp only [List.mem_cons, List.not_mem_nil, or_false] at hu
    rcases hu with rfl | rfl
    · exact HX.out.1
    · exact HX.out.2))
  go_wp2_with fail
  refine (c26 _ 0 2 [x, y] _ F0.out (by simp)).mono ?_
  rintro e w4 ⟨⟨p, rfl, up, hp⟩, hb⟩
  have F4 := Lib.hid (F0.out.below hb)
  have B4 := Lib.hid (below_of_alloc B3.out hb)
  have PP := Lib.hid (And.intro up hp)
  clear hb up hp B3 F0
  generalize w3.heap.size = g at *
  go_wp2_with fail
  refine (c27 g 0 2 [x, y] _ F4.out (by simp)).mono ?_
  rintro e w5 ⟨⟨h, rfl, uh, hh⟩, hb⟩
  have F5 := Lib.hid (F4.out.below hb)
  have B5 := Lib.hid (below_trans B4.out hb)
  have HH := Lib.hid (And.intro uh hh)
  clear hb uh hh B4 F4
  go_wp2_with fail
  refine (c28 2 g 0 2 [x, y] _ (by simp) F5.out (by simp) (by simp)).mono ?_
  rintro e w6 ⟨⟨m, rfl, um, hm⟩, hb⟩
  have F6 := Lib.hid (F5.out.below hb)
  have B6 := Lib.hid (below_trans B5.out hb)
  have M := Lib.hid (And.intro um hm)
  clear hb um hm B5 F5
  go_wp2_with fail
  refine (c24t p h _ PP.out.1 HH.out.1 (by rw [PP.out.2, HH.out.2, plain2 x y HX.out.1, held2 x y HX.out.1 HX.out.2])).mono ?_
  rintro e w' ⟨rfl, rfl⟩
  go_wp2_with fail
  refine (c24t p m _ PP.out.1 M.out.1 (by rw [PP.out.2, M.out.2, pairsP, if_pos (by simp)])).mono ?_
  rintro e w' ⟨rfl, rfl⟩
  go_wp2_with fail
  refine (c24t p s _ PP.out.1 S.out.1 (by rw [PP.out.2, S.out.2, plain2 x y HX.out.1])).mono ?_
  rintro e w' ⟨rfl, rfl⟩
  have G6 : Hid (FL w6 g 0 [x]) := Lib.hid (F6.out.take 1)
  go_wp2_with fail
  refine (c27 g 0 2 [x] _ G6.out (by simp)).mono ?_
  rintro e w7 ⟨⟨z, rfl, uz, hz⟩, hb⟩
  have G7 := Lib.hid (G6.out.below hb)
  have B7 := Lib.hid (below_trans B6.out hb)
  have Z := Lib.hid (And.intro uz hz)
  clear hb uz hz B6 G6 F6
  go_wp2_with fail
  refine (c26 g 0 2 [x] _ G7.out (by simp)).mono ?_
  rintro e w8 ⟨⟨z1, rfl, uz, hz⟩, hb⟩
  have G8 := Lib.hid (G7.out.below hb)
  have B8 := Lib.hid (below_trans B7.out hb)
  have Z1 := Lib.hid (And.intro uz hz)
  clear hb uz hz B7 G7
  go_wp2_with fail
  refine (c24t z z1 _ Z.out.1 Z1.out.1 (by rw [Z.out.2, Z1.out.2, held1 x HX.out.1, plain1 x HX.out.1])).mono ?_
  rintro e w' ⟨rfl, rfl⟩
  go_wp2_with fail
  refine (c23 g 0 2 [x] _ G8.out (by simp)).mono ?_
  rintro e w9 ⟨⟨z2, rfl, uz, hz⟩, hb⟩
  have B9 := Lib.hid (below_trans B8.out hb)
  have Z2 := Lib.hid (And.intro uz hz)
  clear hb uz hz B8 G8
  go_wp2_with fail
  refine (c24t z z2 _ Z.out.1 Z2.out.1 (by rw [Z.out.2, Z2.out.2, held1 x HX.out.1, exact1 x HX.out.1])).mono ?_
  rintro e w' ⟨rfl, rfl⟩
  have e0 := neq_self s S.out.1
  have e1 : (FloatKind.f64.format.order s s == some Ordering.eq) = !isN s := by rw [← e0]; simp [bne]
  clear PP HH M Z Z1 Z2 T Q
  cases hf : fin s
  · have HF := Lib.hid hf
    have hr0 := f_eq r 0 R.out.1 (by unfold U; decide)
    rw [R.out.2, loss_inf x y s S.out.1 hf, show feqP 0 (pl 0) = true by decide] at hr0
    cases hn : isN s
    · rw [hn] at e0 e1
      have hq := fun w => run_fop (P := Try.prog) .sub rfl 24 s s w
      have hv : ∀ w, (FloatKind.f64.format.order (fop .sub s s w) 0 != some Ordering.eq) = true := fun w => by
        rw [f_ne _ _ (U_fop _ _ _ _) (by unfold U; decide), pl_fop _ _ _ _ S.out.1 S.out.1]
        unfold opP
        rw [atW_pl s S.out.1 hn, sub_self_inf s S.out.1 hf]; rfl
      have hv2 : ∀ w, (FloatKind.f64.format.order (fop .sub s s w) 0 == some Ordering.eq) = false := fun w => by
        have := hv w; simpa [bne] using this
      have BB := Lib.hid (fun a b => Bd (Bd B9.out a) b)
      have B1 := Lib.hid (fun a => Bd B9.out a)
      clear hf hn
      go_wp2
      go_ret
      exact ⟨rfl, by first | exact BB.out _ _ | exact B1.out _⟩
    · rw [hn] at e0 e1
      clear hf hn
      go_wp2
      go_ret
      exact ⟨rfl, B9.out⟩
  · have HF := Lib.hid hf
    have hn := fin_not_nan hf
    rw [hn] at e0 e1
    have hq := fun w => run_float_arith (P := Try.prog) w .sub 24 .f64 s s 0 (sub_self_fin s S.out.1 hf)
    have hv : (FloatKind.f64.format.order 0 0 != some Ordering.eq) = false := by decide
    have LAW := Lib.hid (two_law x y s r HX.out.1 HX.out.2 S.out.1 S.out.2 R.out.1 R.out.2 hf)
    have ha := fun w => run_fop (P := Try.prog) .add rfl 24 s r w
    have he : ∀ w, (FloatKind.f64.format.order (fop .add s r w) s == some Ordering.eq) = true := fun w => by
      rw [f_eq _ _ (U_fop _ _ _ _) S.out.1, pl_fop _ _ _ _ S.out.1 R.out.1]; exact LAW.out.1
    have hneg : ∀ (b : Nat) (w : World), (Op.unary .neg (.float .f64 b)).run Try.prog w = .ok (.float .f64 (Op.negFloat .f64 b)) w := fun _ _ => rfl
    have B10 := Lib.hid (Bd B9.out (fopN .add s r))
    have hU4 : ∀ u ∈ [s, r, ng x, ng y], U u := by
      intro u hu
      simp only [List.mem_cons, List.not_mem_nil, or_false] at hu
      rcases hu with rfl | rfl | rfl | rfl
      · exact S.out.1
      · exact R.out.1
      · exact U_ng HX.out.1
      · exact U_ng HX.out.2
    have F9 := Lib.hid (FL_new (w9.drewN (fopN .add s r)) [s, r, ng x, ng y] hU4)
    have F9' : Hid (FL ((w9.drewN (fopN .add s r)).alloc (.cells #[.float .f64 s, .float .f64 r, .float .f64 (Op.negFloat .f64 x), .float .f64 (Op.negFloat .f64 y)] 24)) (w9.drewN (fopN .add s r)).heap.size 0 [s, r, ng x, ng y]) := Lib.hid F9.out
    clear hf hn F9 hU4
    go_wp2_with fail
    refine (c23 _ 0 4 [s, r, ng x, ng y] _ F9'.out (by simp)).mono ?_
    rintro e w10 ⟨⟨k, rfl, uk, hk⟩, hb⟩
    have B11 := Lib.hid (below_of_alloc B10.out hb)
    have hk0 := f_eq k 0 uk (by unfold U; decide)
    rw [hk, show pl 0 = 0 by decide, LAW.out.2] at hk0
    clear hb uk hk F9' B10
    go_wp2
    go_ret
    exact ⟨rfl, B11.out⟩
end Go.Proofs.Ytelalledjbeenaa
