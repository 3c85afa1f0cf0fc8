/- The plain law of two numbers. -/
import Derived.Test.YtelalledjbeenaaSumK
namespace Go.Proofs.Ytelalledjbeenaa
open Go.RowKit Fl

theorem accS_fin (l : List Nat) (h : ∀ x ∈ l, fin x = true) : accS l = ⟨sumU l, false, false, false, anyS l⟩ := by
  have hno : ∀ (p : Nat → Bool), (∀ x, fin x = true → p x = false) → l.any p = false := by
    intro p hp
    rw [List.any_eq_false]
    intro x hx
    rw [hp _ (h x hx)]; exact Bool.false_ne_true
  rw [accS_eq, hno isN (fun x hx => fin_not_nan hx), hno _ (fun x hx => decide_eq_false (by rintro rfl; exact absurd hx (by decide))), hno _ (fun x hx => decide_eq_false (by rintro rfl; exact absurd hx (by decide)))]
theorem sumU_fin (l : List Nat) (h : ∀ x ∈ l, fin x = true) : sumU l = (l.map un).sum := by
  unfold sumU
  congr 1
  refine List.map_congr_left fun x hx => ?_
  rw [if_pos (h x hx)]
theorem isI_fin {x : Nat} (h : fin x = true) : isI x = false := by
  have := fin_true h
  unfold INF at this
  unfold isI; exact decide_eq_false (by omega)
/-- what is lost of two finite numbers whose sum is finite -/
theorem loss_fin (x y : Nat) (hx : U x) (hy : U y) (fx : fin x = true) (fy : fin y = true) (ht : rnd (un x + un y).natAbs < INF) (g : Bool) :
    lossP x y (wz (un x + un y) g) = pl (wz (un x + un y - ru (un x + un y)) false) := by
  have fs := fin_wzr g ht
  have us := U_wz (un x + un y) g
  have es := un_wzr (un x + un y) g
  generalize wz (un x + un y) g = s at *
  unfold lossP
  rw [fin_not_nan fs, isI_fin fs]
  have h1 : lostS x y s = accS [x, y, ng s] := (accS3 x y (ng s)).symm
  have hf : ∀ u ∈ [x, y, ng s], fin u = true := by
    intro u hu
    simp only [List.mem_cons, List.not_mem_nil, or_false] at hu
    rcases hu with rfl | rfl | rfl
    · exact fx
    · exact fy
    · rw [fin_ng us]; exact fs
  rw [h1, accS_fin _ hf, sumU_fin _ hf, pV_wz]
  have hs : ([x, y, ng s].map un).sum = un x + un y - ru (un x + un y) := by
    simp only [List.map_cons, List.map_nil, List.sum_cons, List.sum_nil, un_ng us, es]; omega
  rw [hs]
  generalize un x + un y - ru (un x + un y) = E
  rw [if_neg (by simp)]
  rw [pl_wz, pl_wz]
  by_cases h0 : E = 0
  · subst h0
    generalize (!anyS [x, y, ng s]) = c
    cases c <;> simp [zk, rnd_zero]
  · have h2 : rnd E.natAbs ≠ 0 := fun h => h0 (by have := rnd_eq_zero h; omega)
    simp only [h0, false_and, if_false]
    rw [if_neg]
    unfold zk
    split <;> split <;> omega
theorem feqP_wz (z : Int) (c d : Bool) : feqP (pl (wz z c)) (pl (wz z d)) = true := by
  rw [pl_wz, pl_wz]
  have hb := rnd_le z.natAbs
  unfold INF at hb
  by_cases h1 : z < 0
  · rw [if_pos h1, if_pos h1]
    generalize rnd z.natAbs = r at *
    unfold feqP
    rw [decide_eq_true (by omega), decide_eq_true (rfl)]; rfl
  · rw [if_neg h1, if_neg h1]
    by_cases h2 : z = 0
    · subst h2
      rw [show (0 : Int).natAbs = 0 from rfl, rnd_zero]
      cases c <;> cases d <;> decide
    · simp only [h2, false_and, if_false]
      generalize rnd z.natAbs = r at *
      unfold feqP
      rw [decide_eq_true (by omega), decide_eq_true (rfl)]; rfl
/-- two numbers, their sum s and what is lost e, where the sum is finite -/
theorem two_law (x y s e : Nat) (hx : U x) (hy : U y) (us : U s) (hs : pl s = opP .add (pl x) (pl y)) (ue : U e) (he : pl e = lossP x y s) (fs : fin s = true) :
    feqP (opP .add (pl s) (pl e)) (pl s) = true ∧ feqP (pV (accS [s, e, ng x, ng y])) 0 = true := by
  have hp : finP (opP .add (pl x) (pl y)) := by rw [← hs]; exact (finP_pl s).2 fs
  obtain ⟨fx, fy, ht⟩ := fin_of_add x y hx hy hp
  have e1 : s = wz (un x + un y) (sg x && sg y) := word_of_place us (U_wz _ _) (by rw [hs, opP_add x y hx hy fx fy]) (fin_not_nan (fin_wzr _ ht))
  have r := lost_rep x y fx fy ht
  have e2 : e = wz (un x + un y - ru (un x + un y)) false := word_of_place ue (U_wz _ _) (by rw [he, e1, loss_fin x y hx hy fx fy ht]) (fin_not_nan (fin_wz _ r))
  have fe : fin e = true := by rw [e2]; exact fin_wz _ r
  have us1 : un s = ru (un x + un y) := by rw [e1, un_wzr]
  have ue1 : un e = un x + un y - ru (un x + un y) := by rw [e2, un_wz _ r]
  constructor
  · rw [opP_add s e us ue fs fe, us1, ue1, show ru (un x + un y) + (un x + un y - ru (un x + un y)) = un x + un y by omega]
    have := feqP_wz (un x + un y) (sg s && sg e) (sg x && sg y)
    rw [← e1] at this
    exact this
  · have hf : ∀ u ∈ [s, e, ng x, ng y], fin u = true := by
      intro u hu
      simp only [List.mem_cons, List.not_mem_nil, or_false] at hu
      rcases hu with rfl | rfl | rfl | rfl
      · exact fs
      · exact fe
      · rw [fin_ng hx]; exact fx
      · rw [fin_ng hy]; exact fy
    rw [accS_fin _ hf, sumU_fin _ hf, pV_wz]
    have h0 : ([s, e, ng x, ng y].map un).sum = 0 := by
      simp only [List.map_cons, List.map_nil, List.sum_cons, List.sum_nil, un_ng hx, un_ng hy, us1, ue1]; omega
    rw [h0]
    generalize (!anyS [s, e, ng x, ng y]) = c
    rw [pl_wz]
    cases c <;> simp [rnd_zero] <;> decide
theorem loss_comm (x y s t : Nat) (us : U s) (ut : U t) (hs : pl s = opP .add (pl x) (pl y)) (ht : pl t = opP .add (pl y) (pl x)) : lossP x y s = lossP y x t := by
  have h : pl s = pl t := by rw [hs, ht, opP_add_comm]
  rcases (pl_eq_iff us ut).1 h with h | ⟨h1, h2⟩
  · subst h
    have e : lostS x y s = lostS y x s := by
      have key : ∀ p q r : Bool, (p || (q || (r || false))) = (q || (p || (r || false))) := by decide
      have h3 : accS [x, y, ng s] = accS [y, x, ng s] := by
        rw [accS_eq, accS_eq]
        have a1 : sumU [x, y, ng s] = sumU [y, x, ng s] := by
          unfold sumU
          simp only [List.map_cons, List.map_nil, List.sum_cons, List.sum_nil]
          omega
        have a2 : anyS [x, y, ng s] = anyS [y, x, ng s] := key _ _ _
        have a3 : ∀ f : Nat → Bool, [x, y, ng s].any f = [y, x, ng s].any f := fun f => key _ _ _
        rw [a1, a2, a3 isN, a3 (fun x => decide (x = 9218868437227405312)), a3 (fun x => decide (x = 18442240474082181120))]
      unfold lostS
      rw [← accS3, ← accS3]; exact h3
    unfold lossP
    rw [e]
  · unfold lossP
    rw [h1, h2, Bool.true_or, Bool.true_or, if_pos rfl, if_pos rfl]
theorem loss_inf (x y s : Nat) (us : U s) (h : fin s = false) : lossP x y s = 0 := by
  unfold lossP
  by_cases hn : isN s = true
  · rw [hn, Bool.true_or, if_pos rfl]
  · have hn := Bool.eq_false_iff.2 hn
    have h1 := isN_false hn
    have h2 := fin_false h
    have : isI s = true := by unfold isI; unfold INF at h1 h2; exact decide_eq_true (by omega)
    rw [this, Bool.or_true, if_pos rfl]
end Go.Proofs.Ytelalledjbeenaa
