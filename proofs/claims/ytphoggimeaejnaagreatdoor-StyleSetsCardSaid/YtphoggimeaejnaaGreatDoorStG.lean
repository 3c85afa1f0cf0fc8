/- What is put: by places; put again. -/
import Derived.Test.YtphoggimeaejnaaGreatDoorStD
namespace Go.Proofs.YtphoggimeaejnaaGreatDoor
open Go.RowKit Fl

/-- the number that is put, by its place -/
def nP (p : Int) : Int := if p = 9223372036854775807 then 0 else p
def uP (p : Int) : Int := if p = 9223372036854775807 then 0 else if feqP p 0 then 0 else if fltP 4719772409484279808 p then 4719772409484279808 else if fltP p (-4719772409484279809) then -4719772409484279809 else p
def sP (k : Nat) (p : Int) : Int := match k with
  | 0 => maxP 0 (uP (nP p))
  | 1 => maxP 0 (minP (nP p) 4607182418800017408)
  | 2 => maxP 0 (nP p)
  | 3 => maxP 0 (nP p)
  | 4 => nP p
  | _ => uP (nP p)
theorem flt_iff (p q : Int) : fltP p q = true ↔ (p ≠ 9223372036854775807 ∧ q ≠ 9223372036854775807 ∧ zk p < zk q) := by unfold fltP; simp [and_assoc]
theorem feq_iff (p q : Int) : feqP p q = true ↔ (p ≠ 9223372036854775807 ∧ q ≠ 9223372036854775807 ∧ zk p = zk q) := by unfold feqP; simp [and_assoc]
theorem uP_cases (p : Int) : (p = 9223372036854775807 ∧ uP p = 0) ∨ ((p = 0 ∨ p = -1) ∧ uP p = 0) ∨ (4719772409484279808 < p ∧ p ≠ 9223372036854775807 ∧ uP p = 4719772409484279808) ∨ (p < -4719772409484279809 ∧ uP p = -4719772409484279809) ∨ (-4719772409484279809 ≤ p ∧ p ≤ 4719772409484279808 ∧ p ≠ 0 ∧ p ≠ -1 ∧ uP p = p) := by
  unfold uP
  by_cases h0 : p = 9223372036854775807
  · left; exact ⟨h0, by rw [if_pos h0]⟩
  · right
    rw [if_neg h0]
    by_cases h1 : feqP p 0 = true
    · left
      rw [if_pos h1]
      have := (feq_iff p 0).1 h1
      unfold zk at this
      refine ⟨?_, rfl⟩
      have h := this.2.2
      split at h <;> simp at h <;> omega
    · right
      rw [if_neg h1]
      have n1 : p ≠ 0 ∧ p ≠ -1 := by
        constructor
        · rintro rfl; exact h1 (by decide)
        · rintro rfl; exact h1 (by decide)
      by_cases h2 : fltP 4719772409484279808 p = true
      · left
        rw [if_pos h2]
        have h := ((flt_iff _ _).1 h2).2.2
        unfold zk at h
        refine ⟨?_, h0, rfl⟩
        split at h <;> split at h <;> omega
      · right
        rw [if_neg h2]
        have m1 : p ≤ 4719772409484279808 := by
          refine Int.not_lt.1 fun h => h2 ((flt_iff _ _).2 ⟨by decide, h0, ?_⟩)
          unfold zk; rw [if_neg (by decide), if_neg (by omega)]; exact h
        by_cases h3 : fltP p (-4719772409484279809) = true
        · left
          rw [if_pos h3]
          have h := ((flt_iff _ _).1 h3).2.2
          unfold zk at h
          refine ⟨?_, rfl⟩
          split at h <;> split at h <;> omega
        · right
          rw [if_neg h3]
          refine ⟨Int.not_lt.1 fun h => h3 ((flt_iff _ _).2 ⟨h0, by decide, ?_⟩), m1, n1.1, n1.2, rfl⟩
          unfold zk; rw [if_pos (by omega), if_pos (by decide)]; omega
theorem nP_ne (p : Int) : nP p ≠ 9223372036854775807 := by unfold nP; split <;> omega
theorem nP_id {p : Int} (h : p ≠ 9223372036854775807) : nP p = p := by unfold nP; rw [if_neg h]
theorem uP_ne (p : Int) : uP p ≠ 9223372036854775807 := by rcases uP_cases p with h | h | h | h | h <;> omega
theorem maxP_num {q : Int} (h : q ≠ 9223372036854775807) : (0 < q ∧ maxP 0 q = q) ∨ (q ≤ 0 ∧ maxP 0 q = 0) := by
  unfold maxP
  rw [if_neg (by omega)]
  split <;> omega
theorem minP_num {q : Int} (h : q ≠ 9223372036854775807) : (4607182418800017408 < q ∧ minP q 4607182418800017408 = 4607182418800017408) ∨ (q ≤ 4607182418800017408 ∧ minP q 4607182418800017408 = q) := by
  unfold minP
  rw [if_neg (by omega)]
  split <;> omega
theorem sP_ne (k : Nat) (p : Int) : sP k p ≠ 9223372036854775807 := by
  have a := nP_ne p
  have b := uP_ne (nP p)
  have c := maxP_num b
  have d := maxP_num a
  have e := minP_num a
  have e2 := maxP_num (q := minP (nP p) 4607182418800017408) (by omega)
  unfold sP
  split <;> omega
theorem uP_again (p : Int) : uP (uP p) = uP p := by
  have a := uP_cases p
  have b := uP_cases (uP p)
  omega
theorem uP_max {q : Int} (h : q ≠ 9223372036854775807) : uP (maxP 0 (uP q)) = maxP 0 (uP q) := by
  have a := uP_cases q
  have c := maxP_num (uP_ne q)
  have b := uP_cases (maxP 0 (uP q))
  omega
theorem sP_again (k : Nat) (p : Int) : sP k (sP k p) = sP k p := by
  have hn := nP_id (sP_ne k p)
  have a := nP_ne p
  rcases k with _ | _ | _ | _ | _ | k
  · show maxP 0 (uP (nP (maxP 0 (uP (nP p))))) = maxP 0 (uP (nP p))
    rw [show nP (maxP 0 (uP (nP p))) = maxP 0 (uP (nP p)) from hn, uP_max a]
    have b := maxP_num (uP_ne (nP p))
    have c := maxP_num (q := maxP 0 (uP (nP p))) (by have := uP_ne (nP p); omega)
    omega
  · show maxP 0 (minP (nP (maxP 0 (minP (nP p) 4607182418800017408))) 4607182418800017408) = maxP 0 (minP (nP p) 4607182418800017408)
    rw [show nP (maxP 0 (minP (nP p) 4607182418800017408)) = maxP 0 (minP (nP p) 4607182418800017408) from hn]
    have e := minP_num a
    have e2 := maxP_num (q := minP (nP p) 4607182418800017408) (by omega)
    have e3 := minP_num (q := maxP 0 (minP (nP p) 4607182418800017408)) (by omega)
    have e4 := maxP_num (q := minP (maxP 0 (minP (nP p) 4607182418800017408)) 4607182418800017408) (by omega)
    omega
  · show maxP 0 (nP (maxP 0 (nP p))) = maxP 0 (nP p)
    rw [show nP (maxP 0 (nP p)) = maxP 0 (nP p) from hn]
    have b := maxP_num a
    have c := maxP_num (q := maxP 0 (nP p)) (by omega)
    omega
  · show maxP 0 (nP (maxP 0 (nP p))) = maxP 0 (nP p)
    rw [show nP (maxP 0 (nP p)) = maxP 0 (nP p) from hn]
    have b := maxP_num a
    have c := maxP_num (q := maxP 0 (nP p)) (by omega)
    omega
  · exact hn
  · show uP (nP (uP (nP p))) = uP (nP p)
    rw [show nP (uP (nP p)) = uP (nP p) from hn, uP_again]
/-- what lies between 0 and 1 is put as it is -/
theorem sP_unit (k : Nat) (p : Int) (h1 : 0 < p) (h2 : p ≤ 4607182418800017408) : sP k p = p := by
  have hn := nP_id (p := p) (by omega)
  have a := uP_cases p
  have b := maxP_num (q := uP p) (uP_ne p)
  have d := maxP_num (q := p) (by omega)
  have e := minP_num (q := p) (by omega)
  have f := maxP_num (q := minP p 4607182418800017408) (by omega)
  unfold sP
  rw [hn]
  split <;> omega

theorem pl_numW (x : Nat) : pl (numW x) = nP (pl x) := by
  unfold numW nP
  rw [isN_iff_pl]
  by_cases h : pl x = 9223372036854775807
  · rw [if_pos (decide_eq_true h), if_pos h]; decide
  · rw [if_neg (by simpa using h), if_neg h]
theorem pl_usedW (x : Nat) : pl (usedW x) = uP (pl x) := by
  have e0 : pl 0 = 0 := by decide
  have e1 : pl 4719772409484279808 = 4719772409484279808 := by decide
  have e2 : pl 13943144446339055616 = -4719772409484279809 := by decide
  unfold usedW uP
  rw [isN_iff_pl, e0, e1, e2]
  by_cases h : pl x = 9223372036854775807
  · rw [if_pos (decide_eq_true h), if_pos h]; exact e0
  · rw [if_neg (by simpa using h), if_neg h]
    by_cases h1 : feqP (pl x) 0 = true
    · rw [if_pos h1, if_pos h1]; exact e0
    · rw [if_neg h1, if_neg h1]
      by_cases h2 : fltP 4719772409484279808 (pl x) = true
      · rw [if_pos h2, if_pos h2]; exact e1
      · rw [if_neg h2, if_neg h2]
        by_cases h3 : fltP (pl x) (-4719772409484279809) = true
        · rw [if_pos h3, if_pos h3]; exact e2
        · rw [if_neg h3, if_neg h3]
theorem setV_sP (k x : Nat) : setV k x = sP k (pl x) := by
  have e0 : pl 0 = 0 := by decide
  have e1 : pl 4607182418800017408 = 4607182418800017408 := by decide
  unfold setV sP
  split <;> simp only [pl_usedW, pl_numW, e0, e1]
end Go.Proofs.YtphoggimeaejnaaGreatDoor
