/- Held, Plain, Pairs, Exact of at most two, and what two lose: by places. -/
import Derived.Test.YtelalledjbeenaaMgSumP
namespace Go.Proofs.Ytelalledjbeenaa
open Go.RowKit Fl

theorem opP_nan_l (op : BinOp) (y : Nat) : opP op 9223372036854775807 (pl y) = 9223372036854775807 := by
  unfold opP
  rw [nan_op op _ _ U_atN ?_ (.inl isN_atW)]
  have := pl_range y
  exact U_atW _ (by omega) (by omega)
theorem opP_nan_r (op : BinOp) (x : Nat) : opP op (pl x) 9223372036854775807 = 9223372036854775807 := by
  unfold opP
  rw [nan_op op _ _ ?_ U_atN (.inr isN_atW)]
  have := pl_range x
  exact U_atW _ (by omega) (by omega)
theorem sum_comm (a b : Ieee.Datum) : a.sum b = b.sum a := by
  cases a <;> cases b <;> simp only [Ieee.Datum.sum]
  · rename_i s m i t n j
    rw [Int.min_comm, Int.add_comm, Bool.and_comm]
  · rename_i s t
    by_cases h : s = t
    · subst h; rfl
    · rw [if_neg h, if_neg (Ne.symm h)]
theorem opP_add_comm (p q : Int) : opP .add p q = opP .add q p := by
  have h : ∀ a b, floatBits .add .f64 a b = floatBits .add .f64 b a := fun a b => by
    show Ieee.double.add a b = Ieee.double.add b a
    unfold Ieee.Format.add
    rw [sum_comm]
  unfold opP
  rw [h]
theorem wz_self (x : Nat) (hx : U x) (hf : fin x = true) : wz (un x) (sg x) = x := by
  unfold wz
  rw [un_abs, rnd_val _ (by have := fin_true hf; omega)]
  have e : (decide (un x < 0) || (decide (un x = 0) && sg x)) = sg x := by
    unfold un
    cases sg x
    · simp
    · simp only [if_true, Bool.and_true]
      rw [Bool.or_eq_true, decide_eq_true_eq, decide_eq_true_eq]
      omega
  rw [e]
  exact word_self x hx.lt
theorem inf_word (x : Nat) (hx : U x) (hn : isN x = false) (hf : fin x = false) : x = word (sg x) INF := by
  have h1 := isN_false hn
  have h2 := fin_false hf
  have h3 := word_self x hx.lt
  rw [show rg x = INF by omega] at h3
  exact h3.symm
theorem m0_add (x : Nat) (hx : U x) : opP .add (-1) (pl x) = pl x := by
  by_cases hn : isN x = true
  · rw [pl_nan hn]
    exact opP_nan_r .add 9223372036854775808
  · have hn := Bool.eq_false_iff.2 hn
    by_cases hf : fin x = true
    · have h := opP_add 9223372036854775808 x (by unfold U; decide) hx (by decide) hf
      rw [show pl 9223372036854775808 = -1 by decide, show un 9223372036854775808 = 0 by decide, show sg 9223372036854775808 = true by decide, Int.zero_add, Bool.true_and, wz_self x hx hf] at h
      exact h
    · have hf := Bool.eq_false_iff.2 hf
      have e := inf_word x hx hn hf
      generalize sg x = s at e
      subst e
      cases s
      · rw [show pl (word false INF) = 9218868437227405312 by decide]; decide +kernel
      · rw [show pl (word true INF) = -9218868437227405313 by decide]; decide +kernel
theorem plain1 (x : Nat) (hx : U x) : plainP [x] = pl x := m0_add x hx
theorem plain2 (x y : Nat) (hx : U x) : plainP [x, y] = opP .add (pl x) (pl y) := by
  show opP .add (opP .add (-1) (pl x)) (pl y) = _
  rw [m0_add x hx]
theorem exact1 (x : Nat) (hx : U x) : pV (accS [x]) = pl x := by
  rw [accS_eq]
  by_cases hn : isN x = true
  · rw [pl_nan hn]
    unfold pV
    simp [hn, NP]
  · have hn := Bool.eq_false_iff.2 hn
    by_cases hf : fin x = true
    · have h1 : ¬ x = 9218868437227405312 := by rintro rfl; exact absurd hf (by decide)
      have h2 : ¬ x = 18442240474082181120 := by rintro rfl; exact absurd hf (by decide)
      simp only [sumU, anyS, List.map_cons, List.map_nil, List.sum_cons, List.sum_nil, List.any_cons, List.any_nil, hf, hn, if_true, decide_eq_false h1, decide_eq_false h2, Bool.or_false, Int.add_zero]
      rw [pV_wz]
      by_cases h0 : un x = 0
      · have h3 : rg x = 0 := by
          have := un_abs x
          rw [h0] at this
          rcases Nat.eq_zero_or_pos (rg x) with h | h
          · exact h
          · have := val_lt 52 0 (rg x) h; rw [val_zero] at this; omega
        have h4 := word_self x hx.lt
        rw [h3] at h4
        rw [h0]
        generalize sg x = s at h4
        subst h4
        cases s <;> decide +kernel
      · have h5 : pl (wz (un x) (!decide (x ≠ 9223372036854775808))) = pl (wz (un x) (sg x)) := by
          rw [pl_wz, pl_wz]
          simp only [h0, false_and, if_false]
        rw [h5, wz_self x hx hf]
    · have hf := Bool.eq_false_iff.2 hf
      have e := inf_word x hx hn hf
      generalize sg x = s at e
      subst e
      cases s <;> decide +kernel
theorem fleP_abs (a b : Nat) (fa : fin a = true) (fb : fin b = true) : fleP (absP (pl b)) (absP (pl a)) = decide (rg b ≤ rg a) := by
  have e : ∀ x, fin x = true → absP (pl x) = (rg x : Int) ∧ (rg x : Int) < 9218868437227405312 := fun x hx => by
    have h1 := fin_true hx
    unfold INF at h1
    rw [← pl_rg]
    have hn : isN (rg x) = false := by unfold isN INF; rw [rg_rg]; exact decide_eq_false (by omega)
    rw [pl_pos hn (sg_rg x), rg_rg]
    exact ⟨rfl, by omega⟩
  obtain ⟨e1, h1⟩ := e a fa
  obtain ⟨e2, h2⟩ := e b fb
  rw [e1, e2]
  unfold fleP zk
  rw [decide_eq_true (by omega), decide_eq_true (by omega), if_neg (by omega), if_neg (by omega), Bool.true_and, Bool.true_and]
  rw [Bool.eq_iff_iff, decide_eq_true_eq, decide_eq_true_eq]; omega
theorem pl_w0 : pl (wz 0 false) = 0 := by rw [pl_wz]; simp [rnd_zero]
theorem zero_plus (E : Int) (c : Bool) (h : Rep E) : opP .add 0 (pl (wz E c)) = pl (wz E false) := by
  have h1 := plz_add 0 E false c rep_zero h
  rw [pl_w0, Int.zero_add] at h1
  rw [h1]
  simp
/-- a step of Held, of finite numbers whose sum is finite -/
theorem held_two (a b : Nat) (ha : U a) (hb : U b) (fa : fin a = true) (fb : fin b = true) (ht : rnd (un a + un b).natAbs < INF) :
    heldStep (pl a, 0) b = (pl (wz (un a + un b) (sg a && sg b)), pl (wz (un a + un b - ru (un a + un b)) false)) := by
  have hT : heldT (pl a) (pl b) = pl (wz (un a + un b) (sg a && sg b)) := opP_add a b ha hb fa fb
  have key : ∀ (x y : Nat) (z : Int) (g : Bool), U x → U y → fin x = true → fin y = true → rg y ≤ rg x → un x + un y = z → rnd z.natAbs < INF →
      opP .add 0 (opP .add (opP .sub (pl x) (pl (wz z g))) (pl y)) = pl (wz (z - ru z) false) := by
    intro x y z g hx hy fx fy h hz ht
    have r1 : Rep (un x - ru z) := by have := fast_rep x y fx fy (by rw [hz]; exact ht) h; rwa [hz] at this
    have r2 : Rep (z - ru z) := by have := lost_rep x y fx fy (by rw [hz]; exact ht); rwa [hz] at this
    rw [opP_sub x _ hx (U_wz _ _) fx (fin_wzr g ht), un_wzr, opP_add _ y (U_wz _ _) hy (fin_wz _ r1) fy, un_wz _ r1, show un x - ru z + un y = z - ru z by omega, zero_plus _ _ r2]
  unfold heldStep
  refine Prod.ext hT ?_
  show heldC (pl a) 0 (pl b) = _
  unfold heldC
  rw [hT, fleP_abs a b fa fb]
  by_cases h : rg b ≤ rg a
  · rw [decide_eq_true h, if_pos rfl]
    exact key a b _ _ ha hb fa fb h rfl ht
  · rw [decide_eq_false h, if_neg Bool.false_ne_true]
    exact key b a _ _ hb ha fb fa (by omega) (Int.add_comm _ _) ht
/-- a sum that is finite is of finite numbers -/
theorem add_inf (x y : Nat) (hx : U x) (hy : U y) (hf : fin x = false) : opP .add (pl x) (pl y) = 9223372036854775807 ∨ absP (opP .add (pl x) (pl y)) = 9218868437227405312 := by
  by_cases hn : isN x = true
  · left; rw [pl_nan hn]; exact opP_nan_l .add y
  have hn := Bool.eq_false_iff.2 hn
  by_cases hm : isN y = true
  · left; rw [pl_nan hm]; exact opP_nan_r .add x
  have hm := Bool.eq_false_iff.2 hm
  have rx : Ieee.double.read x = .infinity (sg x) := read_inf x hx (by have := isN_false hn; have := fin_false hf; omega)
  have hi : ∀ s, absP (pl (Ieee.double.write (.infinity s))) = 9218868437227405312 := fun s => by cases s <;> decide
  by_cases hg : fin y = true
  · right
    obtain ⟨m, j, e, _⟩ := read_fin y hy hg
    have h : floatBits .add .f64 x y = some (Ieee.double.write (.infinity (sg x))) := by
      show Ieee.double.add x y = _
      unfold Ieee.Format.add
      rw [rx, e]; rfl
    unfold opP
    rw [atW_pl x hx hn, atW_pl y hy hm, h]
    exact hi _
  · have hg := Bool.eq_false_iff.2 hg
    have ry : Ieee.double.read y = .infinity (sg y) := read_inf y hy (by have := isN_false hm; have := fin_false hg; omega)
    have h : floatBits .add .f64 x y = if sg x = sg y then some (Ieee.double.write (.infinity (sg x))) else none := by
      show Ieee.double.add x y = _
      unfold Ieee.Format.add
      rw [rx, ry]
      simp only [Ieee.Datum.sum]
      split <;> rfl
    unfold opP
    rw [atW_pl x hx hn, atW_pl y hy hm, h]
    by_cases hs : sg x = sg y
    · right; rw [if_pos hs]; exact hi _
    · left; rw [if_neg hs]
/-- is a place that of a finite number? -/
def finP (p : Int) : Prop := p ≠ 9223372036854775807 ∧ absP p ≠ 9218868437227405312
theorem finP_pl (x : Nat) : finP (pl x) ↔ fin x = true := by
  unfold finP
  have hr := isN_iff_pl x
  have h2 := pl_rg x
  constructor
  · rintro ⟨h1, h3⟩
    rw [decide_eq_false h1] at hr
    have hn : isN (rg x) = false := by unfold isN at *; rw [rg_rg]; exact hr
    rw [pl_pos hn (sg_rg x), rg_rg] at h2
    unfold fin INF
    unfold isN INF at hr
    have := of_decide_eq_false hr
    exact decide_eq_true (by omega)
  · intro hf
    have hn := fin_not_nan hf
    rw [hn] at hr
    refine ⟨of_decide_eq_false hr.symm, ?_⟩
    have hn2 : isN (rg x) = false := by unfold isN at *; rw [rg_rg]; exact hn
    rw [pl_pos hn2 (sg_rg x), rg_rg] at h2
    have := fin_true hf
    unfold INF at this
    omega
theorem fin_of_add (x y : Nat) (hx : U x) (hy : U y) (h : finP (opP .add (pl x) (pl y))) : fin x = true ∧ fin y = true ∧ rnd (un x + un y).natAbs < INF := by
  have h1 : fin x = true := by
    by_cases c : fin x = true
    · exact c
    · rcases add_inf x y hx hy (Bool.eq_false_iff.2 c) with e | e
      · exact absurd e h.1
      · exact absurd e h.2
  have h2 : fin y = true := by
    by_cases c : fin y = true
    · exact c
    · rw [opP_add_comm] at h
      rcases add_inf y x hy hx (Bool.eq_false_iff.2 c) with e | e
      · exact absurd e h.1
      · exact absurd e h.2
  refine ⟨h1, h2, ?_⟩
  rw [opP_add x y hx hy h1 h2, finP_pl] at h
  have := fin_true h
  rwa [rg_wz] at this
theorem heldF1 (x : Nat) (hx : U x) (hf : fin x = true) : heldF [x] = (pl x, 0) := by
  show heldStep (-1, 0) x = _
  have h := held_two 9223372036854775808 x (by unfold U; decide) hx (by decide) hf (by rw [show un 9223372036854775808 = 0 by decide, Int.zero_add, un_abs, rnd_val _ (by have := fin_true hf; omega)]; exact fin_true hf)
  rw [show pl 9223372036854775808 = -1 by decide, show un 9223372036854775808 = 0 by decide, show sg 9223372036854775808 = true by decide, Int.zero_add, Bool.true_and, wz_self x hx hf] at h
  rw [h]
  have e : un x - ru (un x) = 0 := by have h1 := un_wzr (un x) (sg x); rw [un_wz _ (rep_un x hf)] at h1; omega
  rw [e, pl_w0]
theorem heldP_1 (l : List Nat) : (heldF l).1 = plainP l := by
  unfold heldF plainP
  have h : ∀ (l : List Nat) (p c : Int), (l.foldl heldStep (p, c)).1 = l.foldl (fun p x => opP .add p (pl x)) p := by
    intro l
    induction l with
    | nil => intro p c; rfl
    | cons x r ih => intro p c; rw [List.foldl_cons, List.foldl_cons]; exact ih _ _
  exact h l _ _
theorem held1 (x : Nat) (hx : U x) : heldP [x] = pl x := by
  have h1 := heldP_1 [x]
  rw [plain1 x hx] at h1
  unfold heldP
  simp only
  by_cases hf : fin x = true
  · rw [heldF1 x hx hf]
    rw [if_pos (.inr (.inr (show feqP 0 0 = true by decide)))]
  · have h2 : ¬ finP (pl x) := fun h => hf ((finP_pl x).1 h)
    rw [h1, if_pos]
    unfold finP at h2
    by_cases c : pl x = 9223372036854775807
    · exact .inl c
    · right; left
      by_cases d : absP (pl x) = 9218868437227405312
      · exact d
      · exact absurd ⟨c, d⟩ h2
theorem held2 (x y : Nat) (hx : U x) (hy : U y) : heldP [x, y] = opP .add (pl x) (pl y) := by
  have h1 := heldP_1 [x, y]
  rw [plain2 x y hx] at h1
  unfold heldP
  simp only
  by_cases hp : finP (opP .add (pl x) (pl y))
  · obtain ⟨fx, fy, ht⟩ := fin_of_add x y hx hy hp
    have h2 : heldF [x, y] = heldStep (heldF [x]) y := rfl
    rw [heldF1 x hx fx, held_two x y hx hy fx fy ht] at h2
    rw [h2]
    simp only
    split
    · exact (opP_add x y hx hy fx fy).symm
    · have r := lost_rep x y fx fy ht
      rw [opP_add _ _ (U_wz _ _) (U_wz _ _) (fin_wzr _ ht) (fin_wz _ r), un_wzr, un_wz _ r, show ru (un x + un y) + (un x + un y - ru (un x + un y)) = un x + un y by omega, opP_add x y hx hy fx fy]
      rename_i hc
      have hE : un x + un y - ru (un x + un y) ≠ 0 := fun h => hc (.inr (.inr (by rw [h, pl_w0]; decide)))
      have hz : un x + un y ≠ 0 := fun h => hE (by rw [h]; decide +kernel)
      rw [pl_wz, pl_wz]
      simp only [hz, false_and, if_false]
  · rw [h1, if_pos]
    unfold finP at hp
    by_cases c : opP .add (pl x) (pl y) = 9223372036854775807
    · exact .inl c
    · right; left
      by_cases d : absP (opP .add (pl x) (pl y)) = 9218868437227405312
      · exact d
      · exact absurd ⟨c, d⟩ hp
end Go.Proofs.Ytelalledjbeenaa
