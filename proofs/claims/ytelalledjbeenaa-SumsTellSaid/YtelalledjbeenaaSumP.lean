/- Plain laws of sums: what + does, told by units; sums of whole numbers. -/
import Derived.Test.YtelalledjbeenaaMgSumsE
import Derived.Test.YtelalledjbeenaaWz
namespace Go.Proofs.Ytelalledjbeenaa
open Go.RowKit Fl

/-! ### whole numbers -/
/-- a whole number, of a nought whether it has a sign -/
abbrev Wn := Int × Bool
def wnt (a : Wn) : Nat := wz (a.1 * ONEi) a.2
def sumW (l : List Wn) : Int := (l.map (·.1)).sum
def coldW (l : List Wn) : Bool := l.all fun a => decide (a.1 = 0) && a.2
def mulW (l : List Wn) : Nat := (l.map (·.1.natAbs)).sum
theorem ONEi_pos : 0 < ONEi := by unfold ONEi; have := one_pos; omega
theorem whole_zero (k : Int) : (k * ONEi = 0) ↔ k = 0 := by
  have := ONEi_pos
  constructor
  · intro h
    rcases Int.mul_eq_zero.1 h with h | h
    · exact h
    · omega
  · rintro rfl; exact Int.zero_mul _
theorem sumW_abs (l : List Wn) : (sumW l).natAbs ≤ mulW l := by
  induction l with
  | nil => simp [sumW, mulW]
  | cons a r ih => unfold sumW mulW at *; simp only [List.map_cons, List.sum_cons]; omega
theorem coldW_sum (l : List Wn) (h : coldW l = true) : sumW l = 0 := by
  induction l with
  | nil => rfl
  | cons a r ih =>
    unfold coldW at h
    rw [List.all_cons, Bool.and_eq_true, Bool.and_eq_true] at h
    have h1 := of_decide_eq_true h.1.1
    have h2 := ih h.2
    unfold sumW at *
    simp only [List.map_cons, List.sum_cons]; omega
def B53 : Nat := 9007199254740992
theorem plW_add (s k : Int) (c d : Bool) (hs : s.natAbs ≤ B53) (hk : k.natAbs ≤ B53) (hc : c = true → s = 0) :
    opP .add (pl (wz (s * ONEi) c)) (pl (wz (k * ONEi) d)) = pl (wz ((s + k) * ONEi) (c && (decide (k = 0) && d))) := by
  rw [plz_add _ _ _ _ (rep_whole s hs) (rep_whole k hk), Int.add_mul]
  congr 2
  have e1 : decide (k * ONEi = 0) = decide (k = 0) := by rw [Bool.eq_iff_iff]; simp [whole_zero]
  have e2 : (decide (s * ONEi = 0) && c) = c := by
    cases c
    · rw [Bool.and_false]
    · rw [hc rfl, Int.zero_mul]; rfl
  rw [e1, e2]
theorem plain_fold (l : List Wn) : ∀ (s : Int) (c : Bool), s.natAbs + mulW l ≤ B53 → (c = true → s = 0) →
    (l.map wnt).foldl (fun p x => opP .add p (pl x)) (pl (wz (s * ONEi) c)) = pl (wz ((s + sumW l) * ONEi) (c && coldW l)) := by
  induction l with
  | nil => intro s c _ _; simp [sumW, coldW]
  | cons a r ih =>
    intro s c h hc
    unfold mulW at h
    simp only [List.map_cons, List.sum_cons] at h
    rw [List.map_cons, List.foldl_cons]
    unfold wnt
    rw [plW_add s a.1 c a.2 (by omega) (by omega) hc]
    have h2 := ih (s + a.1) (c && (decide (a.1 = 0) && a.2)) (by unfold mulW; omega) (fun h => by
      rw [Bool.and_eq_true, Bool.and_eq_true] at h
      have h1 := hc h.1
      have h3 := of_decide_eq_true h.2.1
      omega)
    rw [show (fun (a : Wn) => wz (a.1 * ONEi) a.2) = wnt from rfl, h2]
    unfold sumW coldW
    rw [List.map_cons, List.sum_cons, List.all_cons, Int.add_assoc, Bool.and_assoc]
theorem pl_m0 : pl (wz (0 * ONEi) true) = -1 := by rw [Int.zero_mul, pl_wz]; simp
theorem plain_whole (l : List Wn) (h : mulW l ≤ B53) : plainP (l.map wnt) = pl (wz (sumW l * ONEi) (coldW l)) := by
  unfold plainP
  rw [← pl_m0, plain_fold l 0 true (by simpa using h) (fun _ => rfl), Int.zero_add, Bool.true_and]
theorem mulW_append (l r : List Wn) : mulW (l ++ r) = mulW l + mulW r := by simp [mulW]
theorem sumW_append (l r : List Wn) : sumW (l ++ r) = sumW l + sumW r := by simp [sumW]
theorem coldW_append (l r : List Wn) : coldW (l ++ r) = (coldW l && coldW r) := by simp [coldW]

/-- adding halves -/
def pairsP (l : List Nat) : Int :=
  if l.length ≤ 2 then plainP l else opP .add (pairsP (l.take (l.length / 2))) (pairsP (l.drop (l.length / 2)))
termination_by l.length
decreasing_by
  · rw [List.length_take]; omega
  · rw [List.length_drop]; omega
theorem pairs_whole (n : Nat) : ∀ l : List Wn, l.length ≤ n → mulW l ≤ B53 → pairsP (l.map wnt) = pl (wz (sumW l * ONEi) (coldW l)) := by
  induction n with
  | zero =>
    intro l hl h
    rw [pairsP, if_pos (by rw [List.length_map]; omega), plain_whole l h]
  | succ n ih =>
    intro l hl h
    rw [pairsP]
    by_cases h2 : (l.map wnt).length ≤ 2
    · rw [if_pos h2, plain_whole l h]
    · rw [if_neg h2]
      rw [List.length_map] at h2 ⊢
      have e := List.take_append_drop (l.length / 2) l
      have hm := mulW_append (l.take (l.length / 2)) (l.drop (l.length / 2))
      have hs := sumW_append (l.take (l.length / 2)) (l.drop (l.length / 2))
      have hc := coldW_append (l.take (l.length / 2)) (l.drop (l.length / 2))
      rw [e] at hm hs hc
      rw [← List.map_take, ← List.map_drop, ih _ (by rw [List.length_take]; omega) (by omega), ih _ (by rw [List.length_drop]; omega) (by omega)]
      have a1 := sumW_abs (l.take (l.length / 2))
      have a2 := sumW_abs (l.drop (l.length / 2))
      rw [plW_add _ _ _ _ (by omega) (by omega) (coldW_sum _), hs, hc]
      congr 3
      cases h3 : coldW (l.drop (l.length / 2))
      · rw [Bool.and_false]
      · rw [coldW_sum _ h3]; rfl

/-- of exact sums nothing is lost -/
theorem held_step (s k : Int) (c d : Bool) (hs : s.natAbs + k.natAbs ≤ B53) (hc : c = true → s = 0) :
    heldStep (pl (wz (s * ONEi) c), 0) (wz (k * ONEi) d) = (pl (wz ((s + k) * ONEi) (c && (decide (k = 0) && d))), 0) := by
  unfold heldStep
  have ht : heldT (pl (wz (s * ONEi) c)) (pl (wz (k * ONEi) d)) = pl (wz ((s + k) * ONEi) (c && (decide (k = 0) && d))) := plW_add s k c d (by omega) (by omega) hc
  simp only [ht]
  refine Prod.ext rfl ?_
  show heldC _ _ _ = 0
  unfold heldC
  rw [ht]
  have r1 := rep_whole s (by unfold B53 at hs; omega)
  have r2 := rep_whole k (by unfold B53 at hs; omega)
  have r3 := rep_whole (s + k) (by unfold B53 at hs; omega)
  have z1 : opP .add 0 (pl (wz 0 false)) = 0 := by
    have h := plz_add 0 0 false false rep_zero rep_zero
    have e : pl (wz 0 false) = 0 := by rw [pl_wz]; simp [rnd_zero]
    rw [e] at h ⊢
    rw [h, show (0 : Int) + 0 = 0 from rfl]
    simp [e]
  have key : ∀ (y z : Int) (a b g : Bool), Rep y → Rep z → Rep (y + z) → (y = 0 → z = 0 → g = (a && b)) →
      opP .add (opP .sub (pl (wz y a)) (pl (wz (y + z) g))) (pl (wz z b)) = pl (wz 0 false) := by
    intro y z a b g hy hz hyz hg
    rw [plz_sub _ _ _ _ hy hyz, show y - (y + z) = -z by omega, plz_add _ _ _ _ (rep_neg hz) hz, show -z + z = 0 by omega]
    congr 2
    by_cases h0 : z = 0
    · by_cases h1 : y = 0
      · rw [hg h1 h0]; cases a <;> cases b <;> simp
      · rw [decide_eq_false h1]; simp
    · rw [decide_eq_false h0]; simp
  have hG : s * ONEi = 0 → k * ONEi = 0 → (c && (decide (k = 0) && d)) = (c && d) := fun _ h => by rw [decide_eq_true ((whole_zero k).1 h), Bool.true_and]
  generalize (c && (decide (k = 0) && d)) = g at *
  split
  · rw [Int.add_mul, key _ _ _ _ _ r1 r2 (by rw [← Int.add_mul]; exact r3) hG, z1]
  · rw [Int.add_comm s k, Int.add_mul, key _ _ _ _ _ r2 r1 (by rw [← Int.add_mul, Int.add_comm]; exact r3) (fun h1 h2 => by rw [hG h2 h1, Bool.and_comm]), z1]
theorem held_fold (l : List Wn) : ∀ (s : Int) (c : Bool), s.natAbs + mulW l ≤ B53 → (c = true → s = 0) →
    (l.map wnt).foldl heldStep (pl (wz (s * ONEi) c), 0) = (pl (wz ((s + sumW l) * ONEi) (c && coldW l)), 0) := by
  induction l with
  | nil => intro s c _ _; simp [sumW, coldW]
  | cons a r ih =>
    intro s c h hc
    unfold mulW at h
    simp only [List.map_cons, List.sum_cons] at h
    rw [List.map_cons, List.foldl_cons]
    rw [show wnt a = wz (a.1 * ONEi) a.2 from rfl, held_step s a.1 c a.2 (by omega) hc]
    have h2 := ih (s + a.1) (c && (decide (a.1 = 0) && a.2)) (by unfold mulW; omega) (fun h => by
      rw [Bool.and_eq_true, Bool.and_eq_true] at h
      have h1 := hc h.1
      have h3 := of_decide_eq_true h.2.1
      omega)
    rw [h2]
    unfold sumW coldW
    rw [List.map_cons, List.sum_cons, List.all_cons, Int.add_assoc, Bool.and_assoc]
theorem held_whole (l : List Wn) (h : mulW l ≤ B53) : heldP (l.map wnt) = pl (wz (sumW l * ONEi) (coldW l)) := by
  have e : heldF (l.map wnt) = (pl (wz (sumW l * ONEi) (coldW l)), 0) := by
    unfold heldF
    rw [← pl_m0, held_fold l 0 true (by simpa using h) (fun _ => rfl), Int.zero_add, Bool.true_and]
  unfold heldP
  simp only [e]
  rw [if_pos (.inr (.inr (by decide)))]

/-! ### what an Acc tells of numbers that are -/
def anyS (l : List Nat) : Bool := l.any fun x => decide (x ≠ 9223372036854775808)
def sumU (l : List Nat) : Int := (l.map fun x => if fin x then un x else 0).sum
theorem accS_all (l : List Nat) : ∀ s : AS, l.foldl addS s = ⟨s.z + sumU l, s.nan || l.any isN, s.pos || l.any (fun x => decide (x = 9218868437227405312)), s.neg || l.any (fun x => decide (x = 18442240474082181120)), s.any || anyS l⟩ := by
  induction l with
  | nil => intro s; simp [sumU, anyS]
  | cons x r ih =>
    intro s
    rw [List.foldl_cons, ih]
    unfold addS sumU anyS
    simp only [List.map_cons, List.sum_cons, List.any_cons, Bool.or_assoc]
    by_cases h : fin x = true
    · simp only [h, if_true]; rw [Int.add_assoc]
    · simp only [h, if_false, Bool.false_eq_true, Int.zero_add]
theorem accS_eq (l : List Nat) : accS l = ⟨sumU l, l.any isN, l.any (fun x => decide (x = 9218868437227405312)), l.any (fun x => decide (x = 18442240474082181120)), anyS l⟩ := by
  unfold accS; rw [accS_all]; simp [AS.zero]
theorem pV_wz (z : Int) (any : Bool) : pV ⟨z, false, false, false, any⟩ = pl (wz z (!any)) := by
  rw [pl_wz]
  unfold pV
  simp only [Bool.false_and, Bool.or_false, Bool.false_eq_true, if_false]
  by_cases h : z < 0
  · rw [if_pos h, if_pos h]
  · rw [if_neg h, if_neg h]
    by_cases h0 : z = 0
    · subst h0
      cases any <;> simp [rnd_zero]
    · have : ¬ rnd z.natAbs = 0 := fun h => h0 (by have := rnd_eq_zero h; omega)
      rw [if_neg (fun h => this h.1), if_neg (fun h => h0 h.1)]
theorem wnt_facts (a : Wn) (h : a.1.natAbs ≤ B53) : fin (wnt a) = true ∧ un (wnt a) = a.1 * ONEi ∧ (wnt a = 9223372036854775808 ↔ (a.1 = 0 ∧ a.2 = true)) := by
  have r := rep_whole a.1 h
  refine ⟨fin_wz _ r, un_wz _ r, ?_⟩
  constructor
  · intro e
    have h1 := sg_wz (a.1 * ONEi) a.2
    have h2 := un_wz a.2 r
    rw [show wz (a.1 * ONEi) a.2 = wnt a from rfl, e] at h1 h2
    have h3 : un 9223372036854775808 = 0 := by decide
    rw [h3] at h2
    have h4 := (whole_zero a.1).1 h2.symm
    rw [← h2] at h1
    refine ⟨h4, ?_⟩
    have h5 : sg 9223372036854775808 = true := by decide
    rw [h5] at h1
    simpa using h1.symm
  · rintro ⟨h1, h2⟩
    unfold wnt
    rw [h1, h2, Int.zero_mul]
    decide +kernel
theorem exact_whole (l : List Wn) (h : mulW l ≤ B53) : pV (accS (l.map wnt)) = pl (wz (sumW l * ONEi) (coldW l)) := by
  have hm : ∀ a ∈ l, a.1.natAbs ≤ B53 := by
    intro a ha
    have : a.1.natAbs ≤ mulW l := by
      unfold mulW
      clear h
      induction l with
      | nil => cases ha
      | cons b r ih =>
        rw [List.map_cons, List.sum_cons]
        rcases List.mem_cons.1 ha with rfl | ha
        · omega
        · have := ih ha; omega
    omega
  have h1 : sumU (l.map wnt) = sumW l * ONEi := by
    clear h
    induction l with
    | nil => simp [sumU, sumW]
    | cons a r ih =>
      have e := ih fun b hb => hm b (List.mem_cons_of_mem _ hb)
      have f := wnt_facts a (hm a (List.mem_cons_self ..))
      unfold sumU sumW at *
      rw [List.map_cons, List.map_cons, List.sum_cons, if_pos f.1, f.2.1, e, List.map_cons, List.sum_cons, Int.add_mul]
  have hno : ∀ (p : Nat → Bool), (∀ x, fin x = true → p x = false) → (l.map wnt).any p = false := by
    intro p hp
    rw [List.any_eq_false]
    intro x hx
    obtain ⟨a, ha, rfl⟩ := List.mem_map.1 hx
    rw [hp _ (wnt_facts a (hm a ha)).1]; exact Bool.false_ne_true
  have h2 : anyS (l.map wnt) = !coldW l := by
    unfold anyS coldW
    clear h h1 hno
    induction l with
    | nil => rfl
    | cons a r ih =>
      have e := ih fun b hb => hm b (List.mem_cons_of_mem _ hb)
      have f := (wnt_facts a (hm a (List.mem_cons_self ..))).2.2
      rw [List.map_cons, List.any_cons, List.all_cons, e, Bool.not_and]
      congr 1
      by_cases g : a.1 = 0 ∧ a.2 = true
      · rw [decide_eq_false (show ¬ wnt a ≠ 9223372036854775808 from fun h => h (f.2 g)), g.1, g.2]; rfl
      · rw [decide_eq_true (show wnt a ≠ 9223372036854775808 from fun h => g (f.1 h))]
        symm
        rw [Bool.not_eq_true', Bool.and_eq_false_iff]
        by_cases g1 : a.1 = 0
        · right; exact Bool.eq_false_iff.2 fun h => g ⟨g1, h⟩
        · left; exact decide_eq_false g1
  rw [accS_eq, h1, h2, hno isN (fun x hx => fin_not_nan hx), hno _ (fun x hx => decide_eq_false (by rintro rfl; exact absurd hx (by decide))), hno _ (fun x hx => decide_eq_false (by rintro rfl; exact absurd hx (by decide))), pV_wz, Bool.not_not]
end Go.Proofs.Ytelalledjbeenaa
