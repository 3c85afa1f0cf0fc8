/- The plain law of two numbers. The walk of SumsTwo. -/
import Derived.Test.YtelalledjbeenaaSumK
namespace Go.Proofs.Ytelalledjbeenaa
open Go.RowKit Fl

theorem accS_fin (l : List Nat) (h : ∀ x ∈ l, fin x = true) : accS l = ⟨sumU l, false, false, false, anyS l⟩ := by
  have hno : ∀ (p : Nat → Bool), (∀ x, fin x = true → p x = false) → l.any p = false := by
    intro p hp
    rw [List.any_eq_false]
    intro x hx
    rw [hp _ (h x hx)]; exact Bool.false_ne_true
  rw [accS_eq, hno isN (fun x hx => fin_not_nan hx), hno _ (fun x hx => decide_eq_false (by rintro rfl; exact absurd hx (by decide))), hno _ (fun x hx => decide_eq_false (by rintro rfl; exact absurd hx (by decide)))]
theorem sumU_fin (l : List Nat) (h : ∀ x ∈ l, fin x = true) : sumU l = (l.map un).sum := by
  unfold sumU
  congr 1
  refine List.map_congr_left fun x hx => ?_
  rw [if_pos (h x hx)]
theorem isI_fin {x : Nat} (h : fin x = true) : isI x = false := by
  have := fin_true h
  unfold INF at this
  unfold isI; exact decide_eq_false (by omega)
/-- what is lost of two finite numbers whose sum is finite -/
theorem loss_fin (x y : Nat) (hx : U x) (hy : U y) (fx : fin x = true) (fy : fin y = true) (ht : rnd (un x + un y).natAbs < INF) (g : Bool) :
    lossP x y (wz (un x + un y) g) = pl (wz (un x + un y - ru (un x + un y)) false) := by
  have fs := fin_wzr g ht
  have us := U_wz (un x + un y) g
  have es := un_wzr (un x + un y) g
  generalize wz (un x + un y) g = s at *
  unfold lossP
  rw [fin_not_nan fs, isI_fin fs]
  have h1 : lostS x y s = accS [x, y, ng s] := (accS3 x y (ng s)).symm
  have hf : ∀ u ∈ [x, y, ng s], fin u = true := by
    intro u hu
    simp only [List.mem_cons, List.not_mem_nil, or_false] at hu
    rcases hu with rfl | rfl | rfl
    · exact fx
    · exact fy
    · rw [fin_ng us]; exact fs
  rw [h1, accS_fin _ hf, sumU_fin _ hf, pV_wz]
  have hs : ([x, y, ng s].map un).sum = un x + un y - ru (un x + un y) := by
    simp only [List.map_cons, List.map_nil, List.sum_cons, List.sum_nil, un_ng us, es]; omega
  rw [hs]
  generalize un x + un y - ru (un x + un y) = E
  rw [if_neg (by simp)]
  rw [pl_wz, pl_wz]
  by_cases h0 : E = 0
  · subst h0
    generalize (!anyS [x, y, ng s]) = c
    cases c <;> simp [zk, rnd_zero]
  · have h2 : rnd E.natAbs ≠ 0 := fun h => h0 (by have := rnd_eq_zero h; omega)
    simp only [h0, false_and, if_false]
    rw [if_neg]
    unfold zk
    split <;> split <;> omega
theorem feqP_wz (z : Int) (c d : Bool) : feqP (pl (wz z c)) (pl (wz z d)) = true := by
  rw [pl_wz, pl_wz]
  have hb := rnd_le z.natAbs
  unfold INF at hb
  by_cases h1 : z < 0
  · rw [if_pos h1, if_pos h1]
    generalize rnd z.natAbs = r at *
    unfold feqP
    rw [decide_eq_true (by omega), decide_eq_true (rfl)]; rfl
  · rw [if_neg h1, if_neg h1]
    by_cases h2 : z = 0
    · subst h2
      rw [show (0 : Int).natAbs = 0 from rfl, rnd_zero]
      cases c <;> cases d <;> decide
    · simp only [h2, false_and, if_false]
      generalize rnd z.natAbs = r at *
      unfold feqP
      rw [decide_eq_true (by omega), decide_eq_true (rfl)]; rfl
/-- two numbers, their sum s and what is lost e, where the sum is finite -/
theorem two_law (x y s e : Nat) (hx : U x) (hy : U y) (us : U s) (hs : pl s = opP .add (pl x) (pl y)) (ue : U e) (he : pl e = lossP x y s) (fs : fin s = true) :
    feqP (opP .add (pl s) (pl e)) (pl s) = true ∧ feqP (pV (accS [s, e, ng x, ng y])) 0 = true := by
  have hp : finP (opP .add (pl x) (pl y)) := by rw [← hs]; exact (finP_pl s).2 fs
  obtain ⟨fx, fy, ht⟩ := fin_of_add x y hx hy hp
  have e1 : s = wz (un x + un y) (sg x && sg y) := word_of_place us (U_wz _ _) (by rw [hs, opP_add x y hx hy fx fy]) (fin_not_nan (fin_wzr _ ht))
  have r := lost_rep x y fx fy ht
  have e2 : e = wz (un x + un y - ru (un x + un y)) false := word_of_place ue (U_wz _ _) (by rw [he, e1, loss_fin x y hx hy fx fy ht]) (fin_not_nan (fin_wz _ r))
  have fe : fin e = true := by rw [e2]; exact fin_wz _ r
  have us1 : un s = ru (un x + un y) := by rw [e1, un_wzr]
  have ue1 : un e = un x + un y - ru (un x + un y) := by rw [e2, un_wz _ r]
  constructor
  · rw [opP_add s e us ue fs fe, us1, ue1, show ru (un x + un y) + (un x + un y - ru (un x + un y)) = un x + un y by omega]
    have := feqP_wz (un x + un y) (sg s && sg e) (sg x && sg y)
    rw [← e1] at this
    exact this
  · have hf : ∀ u ∈ [s, e, ng x, ng y], fin u = true := by
      intro u hu
      simp only [List.mem_cons, List.not_mem_nil, or_false] at hu
      rcases hu with rfl | rfl | rfl | rfl
      · exact fs
      · exact fe
      · rw [fin_ng hx]; exact fx
      · rw [fin_ng hy]; exact fy
    rw [accS_fin _ hf, sumU_fin _ hf, pV_wz]
    have h0 : ([s, e, ng x, ng y].map un).sum = 0 := by
      simp only [List.map_cons, List.map_nil, List.sum_cons, List.sum_nil, un_ng hx, un_ng hy, us1, ue1]; omega
    rw [h0]
    generalize (!anyS [s, e, ng x, ng y]) = c
    rw [pl_wz]
    cases c <;> simp [rnd_zero] <;> decide
theorem loss_comm (x y s t : Nat) (us : U s) (ut : U t) (hs : pl s = opP .add (pl x) (pl y)) (ht : pl t = opP .add (pl y) (pl x)) : lossP x y s = lossP y x t := by
  have h : pl s = pl t := by rw [hs, ht, opP_add_comm]
  rcases (pl_eq_iff us ut).1 h with h | ⟨h1, h2⟩
  · subst h
    have e : lostS x y s = lostS y x s := by
      have key : ∀ p q r : Bool, (p || (q || (r || false))) = (q || (p || (r || false))) := by decide
      have h3 : accS [x, y, ng s] = accS [y, x, ng s] := by
        rw [accS_eq, accS_eq]
        have a1 : sumU [x, y, ng s] = sumU [y, x, ng s] := by
          unfold sumU
          simp only [List.map_cons, List.map_nil, List.sum_cons, List.sum_nil]
          omega
        have a2 : anyS [x, y, ng s] = anyS [y, x, ng s] := key _ _ _
        have a3 : ∀ f : Nat → Bool, [x, y, ng s].any f = [y, x, ng s].any f := fun f => key _ _ _
        rw [a1, a2, a3 isN, a3 (fun x => decide (x = 9218868437227405312)), a3 (fun x => decide (x = 18442240474082181120))]
      unfold lostS
      rw [← accS3, ← accS3]; exact h3
    unfold lossP
    rw [e]
  · unfold lossP
    rw [h1, h2, Bool.true_or, Bool.true_or, if_pos rfl, if_pos rfl]
theorem loss_inf (x y s : Nat) (us : U s) (h : fin s = false) : lossP x y s = 0 := by
  unfold lossP
  by_cases hn : isN s = true
  · rw [hn, Bool.true_or, if_pos rfl]
  · have hn := Bool.eq_false_iff.2 hn
    have h1 := isN_false hn
    have h2 := fin_false h
    have : isI s = true := by unfold isI; unfold INF at h1 h2; exact decide_eq_true (by omega)
    rw [this, Bool.or_true, if_pos rfl]
end Go.Proofs.Ytelalledjbeenaa

namespace Go.Proofs.Ytelalledjbeenaa
open Go.RowKit Fl

theorem c24t (x y : Nat) (w : World) (hx : U x) (hy : U y) (h : pl x = pl y) : Calls Try.prog 24 #[.float .f64 x, .float .f64 y] w fun e w' => e = .returned (.bool true) ∧ w = w' :=
  (c24 x y w hx hy).mono fun e w' ⟨he, hw⟩ => ⟨by rw [he, h, beq_self_eq_true], hw⟩
set_option maxRecDepth 100000 in
set_option maxHeartbeats 2000000 in
theorem walkSumsTwo (x y : Nat) (w : World) (hx : U x) (hy : U y) :
    Calls Try.prog 4 #[.float .f64 x, .float .f64 y] w fun e w' => e = .returned (.bool true) ∧ Below w.heap.size w w' := by
  have HX := Lib.hid (And.intro hx hy)
  clear hx hy
  go_enter Try.func4, Try.ntmps4
  go_wp2_with fail
  refine (c22 _).mono ?_
  rintro e w1 ⟨rfl, hb⟩
  have B1 := Lib.hid hb
  clear hb
  go_wp2_with fail
  refine (c25 x y _ HX.out.1 HX.out.2).mono ?_
  rintro e w2 ⟨⟨s, r, rfl, us, hs, ur, hr⟩, hb⟩
  have B2 := Lib.hid (below_trans B1.out hb)
  have S := Lib.hid (And.intro us hs)
  have R := Lib.hid (And.intro ur hr)
  clear hb us hs ur hr B1
  go_wp2_with fail
  refine (c25 y x _ HX.out.2 HX.out.1).mono ?_
  rintro e w3 ⟨⟨t, q, rfl, ut, ht, uq, hq⟩, hb⟩
  have B3 := Lib.hid (below_trans B2.out hb)
  have T := Lib.hid (And.intro ut ht)
  have Q := Lib.hid (And.intro uq hq)
  clear hb ut ht uq hq B2
  go_wp2_with fail
  refine (c24t s t _ S.out.1 T.out.1 (by rw [S.out.2, T.out.2, opP_add_comm])).mono ?_
  rintro e w' ⟨rfl, rfl⟩
  go_wp2_with fail
  refine (c24t r q _ R.out.1 Q.out.1 (by rw [R.out.2, Q.out.2]; exact loss_comm x y s t S.out.1 T.out.1 S.out.2 T.out.2)).mono ?_
  rintro e w' ⟨rfl, rfl⟩
  have F0 : Hid (FL (w3.alloc (.cells #[.float .f64 x, .float .f64 y] 24)) w3.heap.size 0 [x, y]) := Lib.hid (FL_new w3 [x, y] (by
    intro u hu
    simp only [List.mem_cons, List.not_mem_nil, or_false] at hu
    rcases hu with rfl | rfl
    · exact HX.out.1
    · exact HX.out.2))
  go_wp2_with fail
  refine (c26 _ 0 2 [x, y] _ F0.out (by simp)).mono ?_
  rintro e w4 ⟨⟨p, rfl, up, hp⟩, hb⟩
  have F4 := Lib.hid (F0.out.below hb)
  have B4 := Lib.hid (below_of_alloc B3.out hb)
  have PP := Lib.hid (And.intro up hp)
  clear hb up hp B3 F0
  generalize w3.heap.size = g at *
  go_wp2_with fail
  refine (c27 g 0 2 [x, y] _ F4.out (by simp)).mono ?_
  rintro e w5 ⟨⟨h, rfl, uh, hh⟩, hb⟩
  have F5 := Lib.hid (F4.out.below hb)
  have B5 := Lib.hid (below_trans B4.out hb)
  have HH := Lib.hid (And.intro uh hh)
  clear hb uh hh B4 F4
  go_wp2_with fail
  refine (c28 2 g 0 2 [x, y] _ (by simp) F5.out (by simp) (by simp)).mono ?_
  rintro e w6 ⟨⟨m, rfl, um, hm⟩, hb⟩
  have F6 := Lib.hid (F5.out.below hb)
  have B6 := Lib.hid (below_trans B5.out hb)
  have M := Lib.hid (And.intro um hm)
  clear hb um hm B5 F5
  go_wp2_with fail
  refine (c24t p h _ PP.out.1 HH.out.1 (by rw [PP.out.2, HH.out.2, plain2 x y HX.out.1, held2 x y HX.out.1 HX.out.2])).mono ?_
  rintro e w' ⟨rfl, rfl⟩
  go_wp2_with fail
  refine (c24t p m _ PP.out.1 M.out.1 (by rw [PP.out.2, M.out.2, pairsP, if_pos (by simp)])).mono ?_
  rintro e w' ⟨rfl, rfl⟩
  go_wp2_with fail
  refine (c24t p s _ PP.out.1 S.out.1 (by rw [PP.out.2, S.out.2, plain2 x y HX.out.1])).mono ?_
  rintro e w' ⟨rfl, rfl⟩
  have G6 : Hid (FL w6 g 0 [x]) := Lib.hid (F6.out.take 1)
  go_wp2_with fail
  refine (c27 g 0 2 [x] _ G6.out (by simp)).mono ?_
  rintro e w7 ⟨⟨z, rfl, uz, hz⟩, hb⟩
  have G7 := Lib.hid (G6.out.below hb)
  have B7 := Lib.hid (below_trans B6.out hb)
  have Z := Lib.hid (And.intro uz hz)
  clear hb uz hz B6 G6 F6
  go_wp2_with fail
  refine (c26 g 0 2 [x] _ G7.out (by simp)).mono ?_
  rintro e w8 ⟨⟨z1, rfl, uz, hz⟩, hb⟩
  have G8 := Lib.hid (G7.out.below hb)
  have B8 := Lib.hid (below_trans B7.out hb)
  have Z1 := Lib.hid (And.intro uz hz)
  clear hb uz hz B7 G7
  go_wp2_with fail
  refine (c24t z z1 _ Z.out.1 Z1.out.1 (by rw [Z.out.2, Z1.out.2, held1 x HX.out.1, plain1 x HX.out.1])).mono ?_
  rintro e w' ⟨rfl, rfl⟩
  go_wp2_with fail
  refine (c23 g 0 2 [x] _ G8.out (by simp)).mono ?_
  rintro e w9 ⟨⟨z2, rfl, uz, hz⟩, hb⟩
  have B9 := Lib.hid (below_trans B8.out hb)
  have Z2 := Lib.hid (And.intro uz hz)
  clear hb uz hz B8 G8
  go_wp2_with fail
  refine (c24t z z2 _ Z.out.1 Z2.out.1 (by rw [Z.out.2, Z2.out.2, held1 x HX.out.1, exact1 x HX.out.1])).mono ?_
  rintro e w' ⟨rfl, rfl⟩
  have e0 := neq_self s S.out.1
  have e1 : (FloatKind.f64.format.order s s == some Ordering.eq) = !isN s := by rw [← e0]; simp [bne]
  clear PP HH M Z Z1 Z2 T Q
  cases hf : fin s
  · have HF := Lib.hid hf
    have hr0 := f_eq r 0 R.out.1 (by unfold U; decide)
    rw [R.out.2, loss_inf x y s S.out.1 hf, show feqP 0 (pl 0) = true by decide] at hr0
    cases hn : isN s
    · rw [hn] at e0 e1
      have hq := fun w => run_fop (P := Try.prog) .sub rfl 24 s s w
      have hv : ∀ w, (FloatKind.f64.format.order (fop .sub s s w) 0 != some Ordering.eq) = true := fun w => by
        rw [f_ne _ _ (U_fop _ _ _ _) (by unfold U; decide), pl_fop _ _ _ _ S.out.1 S.out.1]
        unfold opP
        rw [atW_pl s S.out.1 hn, sub_self_inf s S.out.1 hf]; rfl
      have hv2 : ∀ w, (FloatKind.f64.format.order (fop .sub s s w) 0 == some Ordering.eq) = false := fun w => by
        have := hv w; simpa [bne] using this
      have BB := Lib.hid (fun a b => Bd (Bd B9.out a) b)
      have B1 := Lib.hid (fun a => Bd B9.out a)
      clear hf hn
      go_wp2
      go_ret
      exact ⟨rfl, by first | exact BB.out _ _ | exact B1.out _⟩
    · rw [hn] at e0 e1
      clear hf hn
      go_wp2
      go_ret
      exact ⟨rfl, B9.out⟩
  · have HF := Lib.hid hf
    have hn := fin_not_nan hf
    rw [hn] at e0 e1
    have hq := fun w => run_float_arith (P := Try.prog) w .sub 24 .f64 s s 0 (sub_self_fin s S.out.1 hf)
    have hv : (FloatKind.f64.format.order 0 0 != some Ordering.eq) = false := by decide
    have LAW := Lib.hid (two_law x y s r HX.out.1 HX.out.2 S.out.1 S.out.2 R.out.1 R.out.2 hf)
    have ha := fun w => run_fop (P := Try.prog) .add rfl 24 s r w
    have he : ∀ w, (FloatKind.f64.format.order (fop .add s r w) s == some Ordering.eq) = true := fun w => by
      rw [f_eq _ _ (U_fop _ _ _ _) S.out.1, pl_fop _ _ _ _ S.out.1 R.out.1]; exact LAW.out.1
    have hneg : ∀ (b : Nat) (w : World), (Op.unary .neg (.float .f64 b)).run Try.prog w = .ok (.float .f64 (Op.negFloat .f64 b)) w := fun _ _ => rfl
    have B10 := Lib.hid (Bd B9.out (fopN .add s r))
    have hU4 : ∀ u ∈ [s, r, ng x, ng y], U u := by
      intro u hu
      simp only [List.mem_cons, List.not_mem_nil, or_false] at hu
      rcases hu with rfl | rfl | rfl | rfl
      · exact S.out.1
      · exact R.out.1
      · exact U_ng HX.out.1
      · exact U_ng HX.out.2
    have F9 := Lib.hid (FL_new (w9.drewN (fopN .add s r)) [s, r, ng x, ng y] hU4)
    have F9' : Hid (FL ((w9.drewN (fopN .add s r)).alloc (.cells #[.float .f64 s, .float .f64 r, .float .f64 (Op.negFloat .f64 x), .float .f64 (Op.negFloat .f64 y)] 24)) (w9.drewN (fopN .add s r)).heap.size 0 [s, r, ng x, ng y]) := Lib.hid F9.out
    clear hf hn F9 hU4
    go_wp2_with fail
    refine (c23 _ 0 4 [s, r, ng x, ng y] _ F9'.out (by simp)).mono ?_
    rintro e w10 ⟨⟨k, rfl, uk, hk⟩, hb⟩
    have B11 := Lib.hid (below_of_alloc B10.out hb)
    have hk0 := f_eq k 0 uk (by unfold U; decide)
    rw [hk, show pl 0 = 0 by decide, LAW.out.2] at hk0
    clear hb uk hk F9' B10
    go_wp2
    go_ret
    exact ⟨rfl, B11.out⟩
end Go.Proofs.Ytelalledjbeenaa
