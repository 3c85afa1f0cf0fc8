/- Plain laws of sums: what + does, told by units; sums of whole numbers. What a sum of two loses is a number; Held, Plain, Pairs, Exact of at most two. Held, Plain, Pairs, Exact of at most two, and what two lose: by places. -/
import Derived.Test.YtedkbjimofiphaaMgAccH
namespace Go.Proofs.Ytedkbjimofiphaa
open Go.RowKit Fl

/-! ### whole numbers -/
/-- a whole number, of a nought whether it has a sign -/
abbrev Wn := Int × Bool
def wnt (a : Wn) : Nat := wz (a.1 * ONEi) a.2
def sumW (l : List Wn) : Int := (l.map (·.1)).sum
def coldW (l : List Wn) : Bool := l.all fun a => decide (a.1 = 0) && a.2
def mulW (l : List Wn) : Nat := (l.map (·.1.natAbs)).sum
theorem ONEi_pos : 0 < ONEi := by unfold ONEi; have := one_pos; omega
theorem whole_zero (k : Int) : (k * ONEi = 0) ↔ k = 0 := by
  have := ONEi_pos
  constructor
  · intro h
    rcases Int.mul_eq_zero.1 h with h | h
    · exact h
    · omega
  · rintro rfl; exact Int.zero_mul _
theorem sumW_abs (l : List Wn) : (sumW l).natAbs ≤ mulW l := by
  induction l with
  | nil => simp [sumW, mulW]
  | cons a r ih => unfold sumW mulW at *; simp only [List.map_cons, List.sum_cons]; omega
theorem coldW_sum (l : List Wn) (h : coldW l = true) : sumW l = 0 := by
  induction l with
  | nil => rfl
  | cons a r ih =>
    unfold coldW at h
    rw [List.all_cons, Bool.and_eq_true, Bool.and_eq_true] at h
    have h1 := of_decide_eq_true h.1.1
    have h2 := ih h.2
    unfold sumW at *
    simp only [List.map_cons, List.sum_cons]; omega
def B53 : Nat := 9007199254740992
theorem plW_add (s k : Int) (c d : Bool) (hs : s.natAbs ≤ B53) (hk : k.natAbs ≤ B53) (hc : c = true → s = 0) :
    opP .add (pl (wz (s * ONEi) c)) (pl (wz (k * ONEi) d)) = pl (wz ((s + k) * ONEi) (c && (decide (k = 0) && d))) := by
  rw [plz_add _ _ _ _ (rep_whole s hs) (rep_whole k hk), Int.add_mul]
  congr 2
  have e1 : decide (k * ONEi = 0) = decide (k = 0) := by rw [Bool.eq_iff_iff]; simp [whole_zero]
  have e2 : (decide (s * ONEi = 0) && c) = c := by
    cases c
    · rw [Bool.and_false]
    · rw [hc rfl, Int.zero_mul]; rfl
  rw [e1, e2]
theorem plain_fold (l : List Wn) : ∀ (s : Int) (c : Bool), s.natAbs + mulW l ≤ B53 → (c = true → s = 0) →
    (l.map wnt).foldl (fun p x => opP .add p (pl x)) (pl (wz (s * ONEi) c)) = pl (wz ((s + sumW l) * ONEi) (c && coldW l)) := by
  induction l with
  | nil => intro s c _ _; simp [sumW, coldW]
  | cons a r ih =>
    intro s c h hc
    unfold mulW at h
    simp only [List.map_cons, List.sum_cons] at h
    rw [List.map_cons, List.foldl_cons]
    unfold wnt
    rw [plW_add s a.1 c a.2 (by omega) (by omega) hc]
    have h2 := ih (s + a.1) (c && (decide (a.1 = 0) && a.2)) (by unfold mulW; omega) (fun h => by
      rw [Bool.and_eq_true, Bool.and_eq_true] at h
      have h1 := hc h.1
      have h3 := of_decide_eq_true h.2.1
      omega)
    rw [show (fun (a : Wn) => wz (a.1 * ONEi) a.2) = wnt from rfl, h2]
    unfold sumW coldW
    rw [List.map_cons, List.sum_cons, List.all_cons, Int.add_assoc, Bool.and_assoc]
theorem pl_m0 : pl (wz (0 * ONEi) true) = -1 := by rw [Int.zero_mul, pl_wz]; simp
theorem plain_whole (l : List Wn) (h : mulW l ≤ B53) : plainP (l.map wnt) = pl (wz (sumW l * ONEi) (coldW l)) := by
  unfold plainP
  rw [← pl_m0, plain_fold l 0 true (by simpa using h) (fun _ => rfl), Int.zero_add, Bool.true_and]
theorem mulW_append (l r : List Wn) : mulW (l ++ r) = mulW l + mulW r := by simp [mulW]
theorem sumW_append (l r : List Wn) : sumW (l ++ r) = sumW l + sumW r := by simp [sumW]
theorem coldW_append (l r : List Wn) : coldW (l ++ r) = (coldW l && coldW r) := by simp [coldW]

/-- adding halves -/
def pairsP (l : List Nat) : Int :=
  if l.length ≤ 2 then plainP l else opP .add (pairsP (l.take (l.length / 2))) (pairsP (l.drop (l.length / 2)))
termination_by l.length
decreasing_by
  · rw [List.length_take]; omega
  · rw [List.length_drop]; omega
theorem pairs_whole (n : Nat) : ∀ l : List Wn, l.length ≤ n → mulW l ≤ B53 → pairsP (l.map wnt) = pl (wz (sumW l * ONEi) (coldW l)) := by
  induction n with
  | zero =>
    intro l hl h
    rw [pairsP, if_pos (by rw [List.length_map]; omega), plain_whole l h]
  | succ n ih =>
    intro l hl h
    rw [pairsP]
    by_cases h2 : (l.map wnt).length ≤ 2
    · rw [if_pos h2, plain_whole l h]
    · rw [if_neg h2]
      rw [List.length_map] at h2 ⊢
      have e := List.take_append_drop (l.length / 2) l
      have hm := mulW_append (l.take (l.length / 2)) (l.drop (l.length / 2))
      have hs := sumW_append (l.take (l.length / 2)) (l.drop (l.length / 2))
      have hc := coldW_append (l.take (l.length / 2)) (l.drop (l.length / 2))
      rw [e] at hm hs hc
      rw [← List.map_take, ← List.map_drop, ih _ (by rw [List.length_take]; omega) (by omega), ih _ (by rw [List.length_drop]; omega) (by omega)]
      have a1 := sumW_abs (l.take (l.length / 2))
      have a2 := sumW_abs (l.drop (l.length / 2))
      rw [plW_add _ _ _ _ (by omega) (by omega) (coldW_sum _), hs, hc]
      congr 3
      cases h3 : coldW (l.drop (l.length / 2))
      · rw [Bool.and_false]
      · rw [coldW_sum _ h3]; rfl

/-- of exact sums nothing is lost -/
theorem held_step (s k : Int) (c d : Bool) (hs : s.natAbs + k.natAbs ≤ B53) (hc : c = true → s = 0) :
    heldStep (pl (wz (s * ONEi) c), 0) (wz (k * ONEi) d) = (pl (wz ((s + k) * ONEi) (c && (decide (k = 0) && d))), 0) := by
  unfold heldStep
  have ht : heldT (pl (wz (s * ONEi) c)) (pl (wz (k * ONEi) d)) = pl (wz ((s + k) * ONEi) (c && (decide (k = 0) && d))) := plW_add s k c d (by omega) (by omega) hc
  simp only [ht]
  refine Prod.ext rfl ?_
  show heldC _ _ _ = 0
  unfold heldC
  rw [ht]
  have r1 := rep_whole s (by unfold B53 at hs; omega)
  have r2 := rep_whole k (by unfold B53 at hs; omega)
  have r3 := rep_whole (s + k) (by unfold B53 at hs; omega)
  have z1 : opP .add 0 (pl (wz 0 false)) = 0 := by
    have h := plz_add 0 0 false false rep_zero rep_zero
    have e : pl (wz 0 false) = 0 := by rw [pl_wz]; simp [rnd_zero]
    rw [e] at h ⊢
    rw [h, show (0 : Int) + 0 = 0 from rfl]
    simp [e]
  have key : ∀ (y z : Int) (a b g : Bool), Rep y → Rep z → Rep (y + z) → (y = 0 → z = 0 → g = (a && b)) →
      opP .add (opP .sub (pl (wz y a)) (pl (wz (y + z) g))) (pl (wz z b)) = pl (wz 0 false) := by
    intro y z a b g hy hz hyz hg
    rw [plz_sub _ _ _ _ hy hyz, show y - (y + z) = -z by omega, plz_add _ _ _ _ (rep_neg hz) hz, show -z + z = 0 by omega]
    congr 2
    by_cases h0 : z = 0
    · by_cases h1 : y = 0
      · rw [hg h1 h0]; cases a <;> cases b <;> simp
      · rw [decide_eq_false h1]; simp
    · rw [decide_eq_false h0]; simp
  have hG : s * ONEi = 0 → k * ONEi = 0 → (c && (decide (k = 0) && d)) = (c && d) := fun _ h => by rw [decide_eq_true ((whole_zero k).1 h), Bool.true_and]
  generalize (c && (decide (k = 0) && d)) = g at *
  split
  · rw [Int.add_mul, key _ _ _ _ _ r1 r2 (by rw [← Int.add_mul]; exact r3) hG, z1]
  · rw [Int.add_comm s k, Int.add_mul, key _ _ _ _ _ r2 r1 (by rw [← Int.add_mul, Int.add_comm]; exact r3) (fun h1 h2 => by rw [hG h2 h1, Bool.and_comm]), z1]
theorem held_fold (l : List Wn) : ∀ (s : Int) (c : Bool), s.natAbs + mulW l ≤ B53 → (c = true → s = 0) →
    (l.map wnt).foldl heldStep (pl (wz (s * ONEi) c), 0) = (pl (wz ((s + sumW l) * ONEi) (c && coldW l)), 0) := by
  induction l with
  | nil => intro s c _ _; simp [sumW, coldW]
  | cons a r ih =>
    intro s c h hc
    unfold mulW at h
    simp only [List.map_cons, List.sum_cons] at h
    rw [List.map_cons, List.foldl_cons]
    rw [show wnt a = wz (a.1 * ONEi) a.2 from rfl, held_step s a.1 c a.2 (by omega) hc]
    have h2 := ih (s + a.1) (c && (decide (a.1 = 0) && a.2)) (by unfold mulW; omega) (fun h => by
      rw [Bool.and_eq_true, Bool.and_eq_true] at h
      have h1 := hc h.1
      have h3 := of_decide_eq_true h.2.1
      omega)
    rw [h2]
    unfold sumW coldW
    rw [List.map_cons, List.sum_cons, List.all_cons, Int.add_assoc, Bool.and_assoc]
theorem held_whole (l : List Wn) (h : mulW l ≤ B53) : heldP (l.map wnt) = pl (wz (sumW l * ONEi) (coldW l)) := by
  have e : heldF (l.map wnt) = (pl (wz (sumW l * ONEi) (coldW l)), 0) := by
    unfold heldF
    rw [← pl_m0, held_fold l 0 true (by simpa using h) (fun _ => rfl), Int.zero_add, Bool.true_and]
  unfold heldP
  simp only [e]
  rw [if_pos (.inr (.inr (by decide)))]

/-! ### what an Acc tells of numbers that are -/
def anyS (l : List Nat) : Bool := l.any fun x => decide (x ≠ 9223372036854775808)
def sumU (l : List Nat) : Int := (l.map fun x => if fin x then un x else 0).sum
theorem accS_all (l : List Nat) : ∀ s : AS, l.foldl addS s = ⟨s.z + sumU l, s.nan || l.any isN, s.pos || l.any (fun x => decide (x = 9218868437227405312)), s.neg || l.any (fun x => decide (x = 18442240474082181120)), s.any || anyS l⟩ := by
  induction l with
  | nil => intro s; simp [sumU, anyS]
  | cons x r ih =>
    intro s
    rw [List.foldl_cons, ih]
    unfold addS sumU anyS
    simp only [List.map_cons, List.sum_cons, List.any_cons, Bool.or_assoc]
    by_cases h : fin x = true
    · simp only [h, if_true]; rw [Int.add_assoc]
    · simp only [h, if_false, Bool.false_eq_true, Int.zero_add]
theorem accS_eq (l : List Nat) : accS l = ⟨sumU l, l.any isN, l.any (fun x => decide (x = 9218868437227405312)), l.any (fun x => decide (x = 18442240474082181120)), anyS l⟩ := by
  unfold accS; rw [accS_all]; simp [AS.zero]
theorem pV_wz (z : Int) (any : Bool) : pV ⟨z, false, false, false, any⟩ = pl (wz z (!any)) := by
  rw [pl_wz]
  unfold pV
  simp only [Bool.false_and, Bool.or_false, Bool.false_eq_true, if_false]
  by_cases h : z < 0
  · rw [if_pos h, if_pos h]
  · rw [if_neg h, if_neg h]
    by_cases h0 : z = 0
    · subst h0
      cases any <;> simp [rnd_zero]
    · have : ¬ rnd z.natAbs = 0 := fun h => h0 (by have := rnd_eq_zero h; omega)
      rw [if_neg (fun h => this h.1), if_neg (fun h => h0 h.1)]
theorem wnt_facts (a : Wn) (h : a.1.natAbs ≤ B53) : fin (wnt a) = true ∧ un (wnt a) = a.1 * ONEi ∧ (wnt a = 9223372036854775808 ↔ (a.1 = 0 ∧ a.2 = true)) := by
  have r := rep_whole a.1 h
  refine ⟨fin_wz _ r, un_wz _ r, ?_⟩
  constructor
  · intro e
    have h1 := sg_wz (a.1 * ONEi) a.2
    have h2 := un_wz a.2 r
    rw [show wz (a.1 * ONEi) a.2 = wnt a from rfl, e] at h1 h2
    have h3 : un 9223372036854775808 = 0 := by decide
    rw [h3] at h2
    have h4 := (whole_zero a.1).1 h2.symm
    rw [← h2] at h1
    refine ⟨h4, ?_⟩
    have h5 : sg 9223372036854775808 = true := by decide
    rw [h5] at h1
    simpa using h1.symm
  · rintro ⟨h1, h2⟩
    unfold wnt
    rw [h1, h2, Int.zero_mul]
    decide +kernel
theorem exact_whole (l : List Wn) (h : mulW l ≤ B53) : pV (accS (l.map wnt)) = pl (wz (sumW l * ONEi) (coldW l)) := by
  have hm : ∀ a ∈ l, a.1.natAbs ≤ B53 := by
    intro a ha
    have : a.1.natAbs ≤ mulW l := by
      unfold mulW
      clear h
      induction l with
      | nil => cases ha
      | cons b r ih =>
        rw [List.map_cons, List.sum_cons]
        rcases List.mem_cons.1 ha with rfl | ha
        · omega
        · have := ih ha; omega
    omega
  have h1 : sumU (l.map wnt) = sumW l * ONEi := by
    clear h
    induction l with
    | nil => simp [sumU, sumW]
    | cons a r ih =>
      have e := ih fun b hb => hm b (List.mem_cons_of_mem _ hb)
      have f := wnt_facts a (hm a (List.mem_cons_self ..))
      unfold sumU sumW at *
      rw [List.map_cons, List.map_cons, List.sum_cons, if_pos f.1, f.2.1, e, List.map_cons, List.sum_cons, Int.add_mul]
  have hno : ∀ (p : Nat → Bool), (∀ x, fin x = true → p x = false) → (l.map wnt).any p = false := by
    intro p hp
    rw [List.any_eq_false]
    intro x hx
    obtain ⟨a, ha, rfl⟩ := List.mem_map.1 hx
    rw [hp _ (wnt_facts a (hm a ha)).1]; exact Bool.false_ne_true
  have h2 : anyS (l.map wnt) = !coldW l := by
    unfold anyS coldW
    clear h h1 hno
    induction l with
    | nil => rfl
    | cons a r ih =>
      have e := ih fun b hb => hm b (List.mem_cons_of_mem _ hb)
      have f := (wnt_facts a (hm a (List.mem_cons_self ..))).2.2
      rw [List.map_cons, List.any_cons, List.all_cons, e, Bool.not_and]
      congr 1
      by_cases g : a.1 = 0 ∧ a.2 = true
      · rw [decide_eq_false (show ¬ wnt a ≠ 9223372036854775808 from fun h => h (f.2 g)), g.1, g.2]; rfl
      · rw [decide_eq_true (show wnt a ≠ 9223372036854775808 from fun h => g (f.1 h))]
        symm
        rw [Bool.not_eq_true', Bool.and_eq_false_iff]
        by_cases g1 : a.1 = 0
        · right; exact Bool.eq_false_iff.2 fun h => g ⟨g1, h⟩
        · left; exact decide_eq_false g1
  rw [accS_eq, h1, h2, hno isN (fun x hx => fin_not_nan hx), hno _ (fun x hx => decide_eq_false (by rintro rfl; exact absurd hx (by decide))), hno _ (fun x hx => decide_eq_false (by rintro rfl; exact absurd hx (by decide))), pV_wz, Bool.not_not]
end Go.Proofs.Ytedkbjimofiphaa

namespace Go.Proofs.Ytedkbjimofiphaa
open Go.RowKit Fl

theorem un_split (x : Nat) : ∃ k : Int, un x = k * 2 ^ mE x ∧ k.natAbs = mM x := by
  refine ⟨if sg x then -(mM x : Int) else mM x, ?_, ?_⟩
  · unfold un
    rw [val_mm, Int.natCast_mul, Int.natCast_pow]
    cases sg x <;> simp [Int.neg_mul]
  · cases sg x <;> simp
theorem un_mult (x j : Nat) (h : j ≤ mE x) : ∃ k : Int, un x = k * 2 ^ j := by
  obtain ⟨k, e, _⟩ := un_split x
  obtain ⟨c, hc⟩ := pow_split j (mE x) h
  refine ⟨k * c, ?_⟩
  have h2 : (2 : Int) ^ mE x = (c : Int) * 2 ^ j := by
    have := congrArg (Nat.cast (R := Int)) hc
    rw [Int.natCast_pow, Int.natCast_mul, Int.natCast_pow] at this
    exact this
  rw [e, h2, Int.mul_assoc]
theorem ru_abs (z : Int) : (ru z).natAbs = val 52 (rnd z.natAbs) := by unfold ru; split <;> omega
/-- what is lost is no more than either -/
theorem err_le (a b : Nat) (ht : rnd (un a + un b).natAbs < INF) : (un a + un b - ru (un a + un b)).natAbs ≤ (un b).natAbs := by
  have h1 := nearest_le (un a + un b).natAbs (rg a)
  have h2 := nearest_le (un a + un b).natAbs 0
  rw [rung_of_rnd ht] at h1 h2
  rw [val_zero] at h2
  have h3 := un_abs a
  have h4 : un a = (val 52 (rg a) : Int) ∨ un a = -(val 52 (rg a) : Int) := by unfold un; split <;> omega
  unfold ru
  generalize val 52 (rnd (un a + un b).natAbs) = T at *
  generalize val 52 (rg a) = A at *
  generalize un a = x at *
  generalize un b = y at *
  split <;> omega
theorem lost_comm (a b : Nat) : un a + un b - ru (un a + un b) = un b + un a - ru (un b + un a) := by rw [Int.add_comm]
/-- what is lost is many times any power of two that both are, or nothing is -/
theorem lost_mult (z : Int) (j : Nat) (hz : ∃ k : Int, z = k * 2 ^ j) (ht : rnd z.natAbs < INF) :
    ru z = z ∨ (j < z.natAbs.log2 - 52 ∧ ∃ k : Int, ru z = k * 2 ^ j) := by
  obtain ⟨k, rfl⟩ := hz
  have e : (k * 2 ^ j : Int).natAbs = k.natAbs * 2 ^ j := by rw [Int.natAbs_mul, Int.natAbs_pow]; rfl
  have h := round_mult k.natAbs j
  rw [← e, rung_of_rnd ht] at h
  rcases h with h | ⟨h1, t, h⟩
  · left
    unfold ru
    rw [h]
    split <;> omega
  · right
    refine ⟨h1, ?_⟩
    unfold ru
    rw [h, Int.natCast_mul, Int.natCast_pow]
    split
    · exact ⟨-(t : Int), by rw [Int.neg_mul]; rfl⟩
    · exact ⟨(t : Int), rfl⟩
theorem rep_of_mult (E k : Int) (j r : Nat) (he : E = k * 2 ^ j) (hk : k.natAbs ≤ 9007199254740992) (hr : r < INF) (h : E.natAbs ≤ val 52 r) : Rep E := by
  have e : E.natAbs = k.natAbs * 2 ^ j := by rw [he, Int.natAbs_mul, Int.natAbs_pow]; rfl
  unfold Rep
  rw [e]
  exact rep_mult k.natAbs j r hk hr (by rw [← e]; exact h)
theorem le_of_mul (a b j : Nat) (h : a * 2 ^ j ≤ b * 2 ^ j) : a ≤ b := Nat.le_of_mul_le_mul_right h (Nat.two_pow_pos _)
theorem abs_mul (k : Int) (j : Nat) : (k * 2 ^ j : Int).natAbs = k.natAbs * 2 ^ j := by rw [Int.natAbs_mul, Int.natAbs_pow]; rfl
theorem lost_rep1 (a b : Nat) (fb : fin b = true) (ht : rnd (un a + un b).natAbs < INF) (h : mE b ≤ mE a) : Rep (un a + un b - ru (un a + un b)) := by
  obtain ⟨ka, ea⟩ := un_mult a (mE b) h
  obtain ⟨kb, eb, hb⟩ := un_split b
  have hz : ∃ k : Int, un a + un b = k * 2 ^ mE b := ⟨ka + kb, by rw [ea, eb, Int.add_mul]⟩
  have hle := err_le a b ht
  rcases lost_mult _ _ hz ht with h1 | ⟨_, t, h1⟩
  · rw [h1, Int.sub_self]; exact rep_zero
  · obtain ⟨k, hk⟩ := hz
    have hE : un a + un b - ru (un a + un b) = (k - t) * 2 ^ mE b := by rw [h1, hk, Int.sub_mul]
    have hm := mM_lt b
    refine rep_of_mult _ (k - t) (mE b) (rg b) hE ?_ (fin_true fb) (by rw [← un_abs]; exact hle)
    rw [hE, eb, abs_mul, abs_mul, hb] at hle
    have := le_of_mul _ _ _ hle
    omega
/-- what is lost in a sum of two is a number -/
theorem lost_rep (a b : Nat) (fa : fin a = true) (fb : fin b = true) (ht : rnd (un a + un b).natAbs < INF) : Rep (un a + un b - ru (un a + un b)) := by
  rcases Nat.le_total (mE b) (mE a) with h | h
  · exact lost_rep1 a b fb ht h
  · rw [lost_comm]; exact lost_rep1 b a fa (by rw [Int.add_comm]; exact ht) h
theorem mE_mono (a b : Nat) (h : rg b ≤ rg a) : mE b ≤ mE a := by
  unfold mE eM rg at *
  split <;> split <;> omega
theorem rg_of_abs {a b : Nat} (h : (un b).natAbs ≤ (un a).natAbs) : rg b ≤ rg a := by
  rw [un_abs, un_abs] at h
  rcases Nat.lt_or_ge (rg a) (rg b) with h1 | h1
  · have := val_lt 52 _ _ h1; omega
  · exact h1
/-- the greater one less the sum is a number -/
theorem fast_rep (a b : Nat) (fa : fin a = true) (fb : fin b = true) (ht : rnd (un a + un b).natAbs < INF) (h : rg b ≤ rg a) : Rep (un a - ru (un a + un b)) := by
  have hj := mE_mono a b h
  have hab : val 52 (rg b) ≤ val 52 (rg a) := val_le 52 _ _ h
  obtain ⟨ka, ea, hka⟩ := un_split a
  obtain ⟨kb, eb, hkb⟩ := un_split b
  obtain ⟨kj, ej⟩ := un_mult a (mE b) hj
  have hz : ∃ k : Int, un a + un b = k * 2 ^ mE b := ⟨kj + kb, by rw [ej, eb, Int.add_mul]⟩
  have hma := mM_lt a
  have hmb := mM_lt b
  rcases lost_mult _ _ hz ht with h1 | ⟨hd, _⟩
  · rw [h1, show un a - (un a + un b) = -un b by omega]; exact rep_neg (rep_un b fb)
  · -- its size
    have hfin : ∃ r, r < INF ∧ (un a - ru (un a + un b)).natAbs ≤ val 52 r := by
      have m1 : val 52 (rg a) ≤ (un a + un b).natAbs → val 52 (rg a) ≤ val 52 (rnd (un a + un b).natAbs) := fun h => by
        have := rnd_mono h
        rw [rnd_val _ (by have := fin_true fa; omega)] at this
        exact val_le 52 _ _ this
      have m2 : (un a + un b).natAbs ≤ val 52 (rg a) → val 52 (rnd (un a + un b).natAbs) ≤ val 52 (rg a) := fun h => by
        have := rnd_mono h
        rw [rnd_val _ (by have := fin_true fa; omega)] at this
        exact val_le 52 _ _ this
      have hA := un_abs a
      have hB := un_abs b
      by_cases hs : (un a + un b).natAbs ≤ val 52 (rg a)
      · refine ⟨rg a, fin_true fa, ?_⟩
        have := m2 hs
        have hz0 : un a + un b = 0 → val 52 (rnd (un a + un b).natAbs) = 0 := fun h => by rw [h, show (0 : Int).natAbs = 0 from rfl, rnd_zero, val_zero]
        unfold ru
        generalize val 52 (rnd (un a + un b).natAbs) = T at *
        split <;> omega
      · refine ⟨_, ht, ?_⟩
        have := m1 (by omega)
        unfold ru
        generalize val 52 (rnd (un a + un b).natAbs) = T at *
        split <;> omega
    obtain ⟨r, hr, hfin⟩ := hfin
    have hT := val_round (un a + un b).natAbs
    have hbd := rhe_bounds (un a + un b).natAbs (2 ^ ((un a + un b).natAbs.log2 - 52)) (Nat.two_pow_pos _)
    rw [rung_of_rnd ht] at hT
    have hN : (un a + un b).natAbs ≠ 0 := fun h0 => by rw [h0] at hd; simp at hd
    have hlog := Nat.log2_self_le hN
    have hsum : (un a + un b).natAbs ≤ 2 * val 52 (rg a) := by have := un_abs a; have := un_abs b; omega
    have hva := val_mm a
    generalize hdd : (un a + un b).natAbs.log2 - 52 = d at *
    have hl2 : (un a + un b).natAbs.log2 = d + 52 := by omega
    rw [hl2, Nat.pow_add] at hlog
    have hru : ∃ q : Int, ru (un a + un b) = q * 2 ^ d := by
      unfold ru
      rw [hT, Int.natCast_mul, Int.natCast_pow]
      split
      · exact ⟨-(_ : Int), by rw [Int.neg_mul]; rfl⟩
      · exact ⟨_, rfl⟩
    have herr : (un a + un b - ru (un a + un b)).natAbs ≤ 2 ^ d / 2 := by
      unfold ru
      rw [hT]
      rw [Nat.mul_comm] at hbd
      generalize rhe (un a + un b).natAbs (2 ^ d) * 2 ^ d = T at *
      split <;> omega
    have hdist : (un a - ru (un a + un b)).natAbs ≤ mM b * 2 ^ mE b + 2 ^ d / 2 := by
      have := un_abs b
      have := val_mm b
      omega
    obtain ⟨q, hq⟩ := hru
    have hpd := Nat.two_pow_pos d
    have hpj : 2 * 2 ^ mE b ≤ 2 ^ d := by
      rw [← Nat.pow_succ']; exact Nat.pow_le_pow_right (by decide) hd
    rcases Nat.lt_or_ge (mE a) d with hi | hi
    · have hd1 : d = mE a + 1 := by
        have h5 : 2 ^ d * 2 ^ 52 < 2 ^ (mE a) * 2 ^ 54 := by
          have : mM a * 2 ^ mE a < 2 ^ 53 * 2 ^ mE a := Nat.mul_lt_mul_of_pos_right (by rw [show (2 : Nat) ^ 53 = 9007199254740992 by decide]; exact hma) (Nat.two_pow_pos _)
          rw [show (2 : Nat) ^ 54 = 2 * 2 ^ 53 by decide]
          rw [Nat.mul_comm (2 ^ mE a)]
          rw [Nat.mul_assoc]
          omega
        rw [← Nat.pow_add, ← Nat.pow_add] at h5
        have := (Nat.pow_lt_pow_iff_right (by decide)).1 h5
        omega
      have hD : un a - ru (un a + un b) = (ka - q * 2) * 2 ^ mE a := by
        rw [hq, hd1, ea, Int.sub_mul, Int.pow_succ]
        congr 1
        rw [Int.mul_assoc, Int.mul_comm 2]
      refine rep_of_mult _ _ (mE a) r hD ?_ hr hfin
      rw [hD, abs_mul] at hdist
      refine le_of_mul _ _ (mE a) (Nat.le_trans hdist ?_)
      have h6 : 2 ^ d / 2 = 2 ^ mE a := by rw [hd1, Nat.pow_succ]; omega
      have h7 : mM b * 2 ^ mE b ≤ mM b * 2 ^ mE a := Nat.mul_le_mul_left _ (Nat.pow_le_pow_right (by decide) hj)
      have h8 : (mM b + 1) * 2 ^ mE a ≤ 9007199254740992 * 2 ^ mE a := Nat.mul_le_mul_right _ (by omega)
      rw [Nat.add_mul, Nat.one_mul] at h8
      omega
    · obtain ⟨kd, ed⟩ := un_mult a d hi
      have hD : un a - ru (un a + un b) = (kd - q) * 2 ^ d := by rw [hq, ed, Int.sub_mul]
      refine rep_of_mult _ _ d r hD ?_ hr hfin
      rw [hD, abs_mul] at hdist
      refine le_of_mul _ _ d (Nat.le_trans hdist ?_)
      have h7 : mM b * 2 ^ mE b ≤ 9007199254740992 * 2 ^ mE b := Nat.mul_le_mul_right _ (by omega)
      omega
end Go.Proofs.Ytedkbjimofiphaa

namespace Go.Proofs.Ytedkbjimofiphaa
open Go.RowKit Fl

theorem opP_nan_l (op : BinOp) (y : Nat) : opP op 9223372036854775807 (pl y) = 9223372036854775807 := by
  unfold opP
  rw [nan_op op _ _ U_atN ?_ (.inl isN_atW)]
  have := pl_range y
  exact U_atW _ (by omega) (by omega)
theorem opP_nan_r (op : BinOp) (x : Nat) : opP op (pl x) 9223372036854775807 = 9223372036854775807 := by
  unfold opP
  rw [nan_op op _ _ ?_ U_atN (.inr isN_atW)]
  have := pl_range x
  exact U_atW _ (by omega) (by omega)
theorem sum_comm (a b : Ieee.Datum) : a.sum b = b.sum a := by
  cases a <;> cases b <;> simp only [Ieee.Datum.sum]
  · rename_i s m i t n j
    rw [Int.min_comm, Int.add_comm, Bool.and_comm]
  · rename_i s t
    by_cases h : s = t
    · subst h; rfl
    · rw [if_neg h, if_neg (Ne.symm h)]
theorem opP_add_comm (p q : Int) : opP .add p q = opP .add q p := by
  have h : ∀ a b, floatBits .add .f64 a b = floatBits .add .f64 b a := fun a b => by
    show Ieee.double.add a b = Ieee.double.add b a
    unfold Ieee.Format.add
    rw [sum_comm]
  unfold opP
  rw [h]
theorem wz_self (x : Nat) (hx : U x) (hf : fin x = true) : wz (un x) (sg x) = x := by
  unfold wz
  rw [un_abs, rnd_val _ (by have := fin_true hf; omega)]
  have e : (decide (un x < 0) || (decide (un x = 0) && sg x)) = sg x := by
    unfold un
    cases sg x
    · simp
    · simp only [if_true, Bool.and_true]
      rw [Bool.or_eq_true, decide_eq_true_eq, decide_eq_true_eq]
      omega
  rw [e]
  exact word_self x hx.lt
theorem inf_word (x : Nat) (hx : U x) (hn : isN x = false) (hf : fin x = false) : x = word (sg x) INF := by
  have h1 := isN_false hn
  have h2 := fin_false hf
  have h3 := word_self x hx.lt
  rw [show rg x = INF by omega] at h3
  exact h3.symm
theorem m0_add (x : Nat) (hx : U x) : opP .add (-1) (pl x) = pl x := by
  by_cases hn : isN x = true
  · rw [pl_nan hn]
    exact opP_nan_r .add 9223372036854775808
  · have hn := Bool.eq_false_iff.2 hn
    by_cases hf : fin x = true
    · have h := opP_add 9223372036854775808 x (by unfold U; decide) hx (by decide) hf
      rw [show pl 9223372036854775808 = -1 by decide, show un 9223372036854775808 = 0 by decide, show sg 9223372036854775808 = true by decide, Int.zero_add, Bool.true_and, wz_self x hx hf] at h
      exact h
    · have hf := Bool.eq_false_iff.2 hf
      have e := inf_word x hx hn hf
      generalize sg x = s at e
      subst e
      cases s
      · rw [show pl (word false INF) = 9218868437227405312 by decide]; decide +kernel
      · rw [show pl (word true INF) = -9218868437227405313 by decide]; decide +kernel
theorem plain1 (x : Nat) (hx : U x) : plainP [x] = pl x := m0_add x hx
theorem plain2 (x y : Nat) (hx : U x) : plainP [x, y] = opP .add (pl x) (pl y) := by
  show opP .add (opP .add (-1) (pl x)) (pl y) = _
  rw [m0_add x hx]
theorem exact1 (x : Nat) (hx : U x) : pV (accS [x]) = pl x := by
  rw [accS_eq]
  by_cases hn : isN x = true
  · rw [pl_nan hn]
    unfold pV
    simp [hn, NP]
  · have hn := Bool.eq_false_iff.2 hn
    by_cases hf : fin x = true
    · have h1 : ¬ x = 9218868437227405312 := by rintro rfl; exact absurd hf (by decide)
      have h2 : ¬ x = 18442240474082181120 := by rintro rfl; exact absurd hf (by decide)
      simp only [sumU, anyS, List.map_cons, List.map_nil, List.sum_cons, List.sum_nil, List.any_cons, List.any_nil, hf, hn, if_true, decide_eq_false h1, decide_eq_false h2, Bool.or_false, Int.add_zero]
      rw [pV_wz]
      by_cases h0 : un x = 0
      · have h3 : rg x = 0 := by
          have := un_abs x
          rw [h0] at this
          rcases Nat.eq_zero_or_pos (rg x) with h | h
          · exact h
          · have := val_lt 52 0 (rg x) h; rw [val_zero] at this; omega
        have h4 := word_self x hx.lt
        rw [h3] at h4
        rw [h0]
        generalize sg x = s at h4
        subst h4
        cases s <;> decide +kernel
      · have h5 : pl (wz (un x) (!decide (x ≠ 9223372036854775808))) = pl (wz (un x) (sg x)) := by
          rw [pl_wz, pl_wz]
          simp only [h0, false_and, if_false]
        rw [h5, wz_self x hx hf]
    · have hf := Bool.eq_false_iff.2 hf
      have e := inf_word x hx hn hf
      generalize sg x = s at e
      subst e
      cases s <;> decide +kernel
theorem fleP_abs (a b : Nat) (fa : fin a = true) (fb : fin b = true) : fleP (absP (pl b)) (absP (pl a)) = decide (rg b ≤ rg a) := by
  have e : ∀ x, fin x = true → absP (pl x) = (rg x : Int) ∧ (rg x : Int) < 9218868437227405312 := fun x hx => by
    have h1 := fin_true hx
    unfold INF at h1
    rw [← pl_rg]
    have hn : isN (rg x) = false := by unfold isN INF; rw [rg_rg]; exact decide_eq_false (by omega)
    rw [pl_pos hn (sg_rg x), rg_rg]
    exact ⟨rfl, by omega⟩
  obtain ⟨e1, h1⟩ := e a fa
  obtain ⟨e2, h2⟩ := e b fb
  rw [e1, e2]
  unfold fleP zk
  rw [decide_eq_true (by omega), decide_eq_true (by omega), if_neg (by omega), if_neg (by omega), Bool.true_and, Bool.true_and]
  rw [Bool.eq_iff_iff, decide_eq_true_eq, decide_eq_true_eq]; omega
theorem pl_w0 : pl (wz 0 false) = 0 := by rw [pl_wz]; simp [rnd_zero]
theorem zero_plus (E : Int) (c : Bool) (h : Rep E) : opP .add 0 (pl (wz E c)) = pl (wz E false) := by
  have h1 := plz_add 0 E false c rep_zero h
  rw [pl_w0, Int.zero_add] at h1
  rw [h1]
  simp
/-- a step of Held, of finite numbers whose sum is finite -/
theorem held_two (a b : Nat) (ha : U a) (hb : U b) (fa : fin a = true) (fb : fin b = true) (ht : rnd (un a + un b).natAbs < INF) :
    heldStep (pl a, 0) b = (pl (wz (un a + un b) (sg a && sg b)), pl (wz (un a + un b - ru (un a + un b)) false)) := by
  have hT : heldT (pl a) (pl b) = pl (wz (un a + un b) (sg a && sg b)) := opP_add a b ha hb fa fb
  have key : ∀ (x y : Nat) (z : Int) (g : Bool), U x → U y → fin x = true → fin y = true → rg y ≤ rg x → un x + un y = z → rnd z.natAbs < INF →
      opP .add 0 (opP .add (opP .sub (pl x) (pl (wz z g))) (pl y)) = pl (wz (z - ru z) false) := by
    intro x y z g hx hy fx fy h hz ht
    have r1 : Rep (un x - ru z) := by have := fast_rep x y fx fy (by rw [hz]; exact ht) h; rwa [hz] at this
    have r2 : Rep (z - ru z) := by have := lost_rep x y fx fy (by rw [hz]; exact ht); rwa [hz] at this
    rw [opP_sub x _ hx (U_wz _ _) fx (fin_wzr g ht), un_wzr, opP_add _ y (U_wz _ _) hy (fin_wz _ r1) fy, un_wz _ r1, show un x - ru z + un y = z - ru z by omega, zero_plus _ _ r2]
  unfold heldStep
  refine Prod.ext hT ?_
  show heldC (pl a) 0 (pl b) = _
  unfold heldC
  rw [hT, fleP_abs a b fa fb]
  by_cases h : rg b ≤ rg a
  · rw [decide_eq_true h, if_pos rfl]
    exact key a b _ _ ha hb fa fb h rfl ht
  · rw [decide_eq_false h, if_neg Bool.false_ne_true]
    exact key b a _ _ hb ha fb fa (by omega) (Int.add_comm _ _) ht
/-- a sum that is finite is of finite numbers -/
theorem add_inf (x y : Nat) (hx : U x) (hy : U y) (hf : fin x = false) : opP .add (pl x) (pl y) = 9223372036854775807 ∨ absP (opP .add (pl x) (pl y)) = 9218868437227405312 := by
  by_cases hn : isN x = true
  · left; rw [pl_nan hn]; exact opP_nan_l .add y
  have hn := Bool.eq_false_iff.2 hn
  by_cases hm : isN y = true
  · left; rw [pl_nan hm]; exact opP_nan_r .add x
  have hm := Bool.eq_false_iff.2 hm
  have rx : Ieee.double.read x = .infinity (sg x) := read_inf x hx (by have := isN_false hn; have := fin_false hf; omega)
  have hi : ∀ s, absP (pl (Ieee.double.write (.infinity s))) = 9218868437227405312 := fun s => by cases s <;> decide
  by_cases hg : fin y = true
  · right
    obtain ⟨m, j, e, _⟩ := read_fin y hy hg
    have h : floatBits .add .f64 x y = some (Ieee.double.write (.infinity (sg x))) := by
      show Ieee.double.add x y = _
      unfold Ieee.Format.add
      rw [rx, e]; rfl
    unfold opP
    rw [atW_pl x hx hn, atW_pl y hy hm, h]
    exact hi _
  · have hg := Bool.eq_false_iff.2 hg
    have ry : Ieee.double.read y = .infinity (sg y) := read_inf y hy (by have := isN_false hm; have := fin_false hg; omega)
    have h : floatBits .add .f64 x y = if sg x = sg y then some (Ieee.double.write (.infinity (sg x))) else none := by
      show Ieee.double.add x y = _
      unfold Ieee.Format.add
      rw [rx, ry]
      simp only [Ieee.Datum.sum]
      split <;> rfl
    unfold opP
    rw [atW_pl x hx hn, atW_pl y hy hm, h]
    by_cases hs : sg x = sg y
    · right; rw [if_pos hs]; exact hi _
    · left; rw [if_neg hs]
/-- is a place that of a finite number? -/
def finP (p : Int) : Prop := p ≠ 9223372036854775807 ∧ absP p ≠ 9218868437227405312
theorem finP_pl (x : Nat) : finP (pl x) ↔ fin x = true := by
  unfold finP
  have hr := isN_iff_pl x
  have h2 := pl_rg x
  constructor
  · rintro ⟨h1, h3⟩
    rw [decide_eq_false h1] at hr
    have hn : isN (rg x) = false := by unfold isN at *; rw [rg_rg]; exact hr
    rw [pl_pos hn (sg_rg x), rg_rg] at h2
    unfold fin INF
    unfold isN INF at hr
    have := of_decide_eq_false hr
    exact decide_eq_true (by omega)
  · intro hf
    have hn := fin_not_nan hf
    rw [hn] at hr
    refine ⟨of_decide_eq_false hr.symm, ?_⟩
    have hn2 : isN (rg x) = false := by unfold isN at *; rw [rg_rg]; exact hn
    rw [pl_pos hn2 (sg_rg x), rg_rg] at h2
    have := fin_true hf
    unfold INF at this
    omega
theorem fin_of_add (x y : Nat) (hx : U x) (hy : U y) (h : finP (opP .add (pl x) (pl y))) : fin x = true ∧ fin y = true ∧ rnd (un x + un y).natAbs < INF := by
  have h1 : fin x = true := by
    by_cases c : fin x = true
    · exact c
    · rcases add_inf x y hx hy (Bool.eq_false_iff.2 c) with e | e
      · exact absurd e h.1
      · exact absurd e h.2
  have h2 : fin y = true := by
    by_cases c : fin y = true
    · exact c
    · rw [opP_add_comm] at h
      rcases add_inf y x hy hx (Bool.eq_false_iff.2 c) with e | e
      · exact absurd e h.1
      · exact absurd e h.2
  refine ⟨h1, h2, ?_⟩
  rw [opP_add x y hx hy h1 h2, finP_pl] at h
  have := fin_true h
  rwa [rg_wz] at this
theorem heldF1 (x : Nat) (hx : U x) (hf : fin x = true) : heldF [x] = (pl x, 0) := by
  show heldStep (-1, 0) x = _
  have h := held_two 9223372036854775808 x (by unfold U; decide) hx (by decide) hf (by rw [show un 9223372036854775808 = 0 by decide, Int.zero_add, un_abs, rnd_val _ (by have := fin_true hf; omega)]; exact fin_true hf)
  rw [show pl 9223372036854775808 = -1 by decide, show un 9223372036854775808 = 0 by decide, show sg 9223372036854775808 = true by decide, Int.zero_add, Bool.true_and, wz_self x hx hf] at h
  rw [h]
  have e : un x - ru (un x) = 0 := by have h1 := un_wzr (un x) (sg x); rw [un_wz _ (rep_un x hf)] at h1; omega
  rw [e, pl_w0]
theorem heldP_1 (l : List Nat) : (heldF l).1 = plainP l := by
  unfold heldF plainP
  have h : ∀ (l : List Nat) (p c : Int), (l.foldl heldStep (p, c)).1 = l.foldl (fun p x => opP .add p (pl x)) p := by
    intro l
    induction l with
    | nil => intro p c; rfl
    | cons x r ih => intro p c; rw [List.foldl_cons, List.foldl_cons]; exact ih _ _
  exact h l _ _
theorem held1 (x : Nat) (hx : U x) : heldP [x] = pl x := by
  have h1 := heldP_1 [x]
  rw [plain1 x hx] at h1
  unfold heldP
  simp only
  by_cases hf : fin x = true
  · rw [heldF1 x hx hf]
    rw [if_pos (.inr (.inr (show feqP 0 0 = true by decide)))]
  · have h2 : ¬ finP (pl x) := fun h => hf ((finP_pl x).1 h)
    rw [h1, if_pos]
    unfold finP at h2
    by_cases c : pl x = 9223372036854775807
    · exact .inl c
    · right; left
      by_cases d : absP (pl x) = 9218868437227405312
      · exact d
      · exact absurd ⟨c, d⟩ h2
theorem held2 (x y : Nat) (hx : U x) (hy : U y) : heldP [x, y] = opP .add (pl x) (pl y) := by
  have h1 := heldP_1 [x, y]
  rw [plain2 x y hx] at h1
  unfold heldP
  simp only
  by_cases hp : finP (opP .add (pl x) (pl y))
  · obtain ⟨fx, fy, ht⟩ := fin_of_add x y hx hy hp
    have h2 : heldF [x, y] = heldStep (heldF [x]) y := rfl
    rw [heldF1 x hx fx, held_two x y hx hy fx fy ht] at h2
    rw [h2]
    simp only
    split
    · exact (opP_add x y hx hy fx fy).symm
    · have r := lost_rep x y fx fy ht
      rw [opP_add _ _ (U_wz _ _) (U_wz _ _) (fin_wzr _ ht) (fin_wz _ r), un_wzr, un_wz _ r, show ru (un x + un y) + (un x + un y - ru (un x + un y)) = un x + un y by omega, opP_add x y hx hy fx fy]
      rename_i hc
      have hE : un x + un y - ru (un x + un y) ≠ 0 := fun h => hc (.inr (.inr (by rw [h, pl_w0]; decide)))
      have hz : un x + un y ≠ 0 := fun h => hE (by rw [h]; decide +kernel)
      rw [pl_wz, pl_wz]
      simp only [hz, false_and, if_false]
  · rw [h1, if_pos]
    unfold finP at hp
    by_cases c : opP .add (pl x) (pl y) = 9223372036854775807
    · exact .inl c
    · right; left
      by_cases d : absP (opP .add (pl x) (pl y)) = 9218868437227405312
      · exact d
      · exact absurd ⟨c, d⟩ hp
end Go.Proofs.Ytedkbjimofiphaa
