/- What a sum of two loses is a number; Held, Plain, Pairs, Exact of at most two. -/
import Derived.Test.YtelalledjbeenaaSumP
import Derived.Test.YtelalledjbeenaaMgUG
namespace Go.Proofs.Ytelalledjbeenaa
open Go.RowKit Fl

theorem un_split (x : Nat) : ∃ k : Int, un x = k * 2 ^ mE x ∧ k.natAbs = mM x := by
  refine ⟨if sg x then -(mM x : Int) else mM x, ?_, ?_⟩
  · unfold un
    rw [val_mm, Int.natCast_mul, Int.natCast_pow]
    cases sg x <;> simp [Int.neg_mul]
  · cases sg x <;> simp
theorem un_mult (x j : Nat) (h : j ≤ mE x) : ∃ k : Int, un x = k * 2 ^ j := by
  obtain ⟨k, e, _⟩ := un_split x
  obtain ⟨c, hc⟩ := pow_split j (mE x) h
  refine ⟨k * c, ?_⟩
  have h2 : (2 : Int) ^ mE x = (c : Int) * 2 ^ j := by
    have := congrArg (Nat.cast (R := Int)) hc
    rw [Int.natCast_pow, Int.natCast_mul, Int.natCast_pow] at this
    exact this
  rw [e, h2, Int.mul_assoc]
theorem ru_abs (z : Int) : (ru z).natAbs = val 52 (rnd z.natAbs) := by unfold ru; split <;> omega
/-- what is lost is no more than either -/
theorem err_le (a b : Nat) (ht : rnd (un a + un b).natAbs < INF) : (un a + un b - ru (un a + un b)).natAbs ≤ (un b).natAbs := by
  have h1 := nearest_le (un a + un b).natAbs (rg a)
  have h2 := nearest_le (un a + un b).natAbs 0
  rw [rung_of_rnd ht] at h1 h2
  rw [val_zero] at h2
  have h3 := un_abs a
  have h4 : un a = (val 52 (rg a) : Int) ∨ un a = -(val 52 (rg a) : Int) := by unfold un; split <;> omega
  unfold ru
  generalize val 52 (rnd (un a + un b).natAbs) = T at *
  generalize val 52 (rg a) = A at *
  generalize un a = x at *
  generalize un b = y at *
  split <;> omega
theorem lost_comm (a b : Nat) : un a + un b - ru (un a + un b) = un b + un a - ru (un b + un a) := by rw [Int.add_comm]
/-- what is lost is many times any power of two that both are, or nothing is -/
theorem lost_mult (z : Int) (j : Nat) (hz : ∃ k : Int, z = k * 2 ^ j) (ht : rnd z.natAbs < INF) :
    ru z = z ∨ (j < z.natAbs.log2 - 52 ∧ ∃ k : Int, ru z = k * 2 ^ j) := by
  obtain ⟨k, rfl⟩ := hz
  have e : (k * 2 ^ j : Int).natAbs = k.natAbs * 2 ^ j := by rw [Int.natAbs_mul, Int.natAbs_pow]; rfl
  have h := round_mult k.natAbs j
  rw [← e, rung_of_rnd ht] at h
  rcases h with h | ⟨h1, t, h⟩
  · left
    unfold ru
    rw [h]
    split <;> omega
  · right
    refine ⟨h1, ?_⟩
    unfold ru
    rw [h, Int.natCast_mul, Int.natCast_pow]
    split
    · exact ⟨-(t : Int), by rw [Int.neg_mul]; rfl⟩
    · exact ⟨(t : Int), rfl⟩
theorem rep_of_mult (E k : Int) (j r : Nat) (he : E = k * 2 ^ j) (hk : k.natAbs ≤ 9007199254740992) (hr : r < INF) (h : E.natAbs ≤ val 52 r) : Rep E := by
  have e : E.natAbs = k.natAbs * 2 ^ j := by rw [he, Int.natAbs_mul, Int.natAbs_pow]; rfl
  unfold Rep
  rw [e]
  exact rep_mult k.natAbs j r hk hr (by rw [← e]; exact h)
theorem le_of_mul (a b j : Nat) (h : a * 2 ^ j ≤ b * 2 ^ j) : a ≤ b := Nat.le_of_mul_le_mul_right h (Nat.two_pow_pos _)
theorem abs_mul (k : Int) (j : Nat) : (k * 2 ^ j : Int).natAbs = k.natAbs * 2 ^ j := by rw [Int.natAbs_mul, Int.natAbs_pow]; rfl
theorem lost_rep1 (a b : Nat) (fb : fin b = true) (ht : rnd (un a + un b).natAbs < INF) (h : mE b ≤ mE a) : Rep (un a + un b - ru (un a + un b)) := by
  obtain ⟨ka, ea⟩ := un_mult a (mE b) h
  obtain ⟨kb, eb, hb⟩ := un_split b
  have hz : ∃ k : Int, un a + un b = k * 2 ^ mE b := ⟨ka + kb, by rw [ea, eb, Int.add_mul]⟩
  have hle := err_le a b ht
  rcases lost_mult _ _ hz ht with h1 | ⟨_, t, h1⟩
  · rw [h1, Int.sub_self]; exact rep_zero
  · obtain ⟨k, hk⟩ := hz
    have hE : un a + un b - ru (un a + un b) = (k - t) * 2 ^ mE b := by rw [h1, hk, Int.sub_mul]
    have hm := mM_lt b
    refine rep_of_mult _ (k - t) (mE b) (rg b) hE ?_ (fin_true fb) (by rw [← un_abs]; exact hle)
    rw [hE, eb, abs_mul, abs_mul, hb] at hle
    have := le_of_mul _ _ _ hle
    omega
/-- what is lost in a sum of two is a number -/
theorem lost_rep (a b : Nat) (fa : fin a = true) (fb : fin b = true) (ht : rnd (un a + un b).natAbs < INF) : Rep (un a + un b - ru (un a + un b)) := by
  rcases Nat.le_total (mE b) (mE a) with h | h
  · exact lost_rep1 a b fb ht h
  · rw [lost_comm]; exact lost_rep1 b a fa (by rw [Int.add_comm]; exact ht) h
theorem mE_mono (a b : Nat) (h : rg b ≤ rg a) : mE b ≤ mE a := by
  unfold mE eM rg at *
  split <;> split <;> omega
theorem rg_of_abs {a b : Nat} (h : (un b).natAbs ≤ (un a).natAbs) : rg b ≤ rg a := by
  rw [un_abs, un_abs] at h
  rcases Nat.lt_or_ge (rg a) (rg b) with h1 | h1
  · have := val_lt 52 _ _ h1; omega
  · exact h1
/-- the greater one less the sum is a number -/
theorem fast_rep (a b : Nat) (fa : fin a = true) (fb : fin b = true) (ht : rnd (un a + un b).natAbs < INF) (h : rg b ≤ rg a) : Rep (un a - ru (un a + un b)) := by
  have hj := mE_mono a b h
  have hab : val 52 (rg b) ≤ val 52 (rg a) := val_le 52 _ _ h
  obtain ⟨ka, ea, hka⟩ := un_split a
  obtain ⟨kb, eb, hkb⟩ := un_split b
  obtain ⟨kj, ej⟩ := un_mult a (mE b) hj
  have hz : ∃ k : Int, un a + un b = k * 2 ^ mE b := ⟨kj + kb, by rw [ej, eb, Int.add_mul]⟩
  have hma := mM_lt a
  have hmb := mM_lt b
  rcases lost_mult _ _ hz ht with h1 | ⟨hd, _⟩
  · rw [h1, show un a - (un a + un b) = -un b by omega]; exact rep_neg (rep_un b fb)
  · -- its size
    have hfin : ∃ r, r < INF ∧ (un a - ru (un a + un b)).natAbs ≤ val 52 r := by
      have m1 : val 52 (rg a) ≤ (un a + un b).natAbs → val 52 (rg a) ≤ val 52 (rnd (un a + un b).natAbs) := fun h => by
        have := rnd_mono h
        rw [rnd_val _ (by have := fin_true fa; omega)] at this
        exact val_le 52 _ _ this
      have m2 : (un a + un b).natAbs ≤ val 52 (rg a) → val 52 (rnd (un a + un b).natAbs) ≤ val 52 (rg a) := fun h => by
        have := rnd_mono h
        rw [rnd_val _ (by have := fin_true fa; omega)] at this
        exact val_le 52 _ _ this
      have hA := un_abs a
      have hB := un_abs b
      by_cases hs : (un a + un b).natAbs ≤ val 52 (rg a)
      · refine ⟨rg a, fin_true fa, ?_⟩
        have := m2 hs
        have hz0 : un a + un b = 0 → val 52 (rnd (un a + un b).natAbs) = 0 := fun h => by rw [h, show (0 : Int).natAbs = 0 from rfl, rnd_zero, val_zero]
        unfold ru
        generalize val 52 (rnd (un a + un b).natAbs) = T at *
        split <;> omega
      · refine ⟨_, ht, ?_⟩
        have := m1 (by omega)
        unfold ru
        generalize val 52 (rnd (un a + un b).natAbs) = T at *
        split <;> omega
    obtain ⟨r, hr, hfin⟩ := hfin
    have hT := val_round (un a + un b).natAbs
    have hbd := rhe_bounds (un a + un b).natAbs (2 ^ ((un a + un b).natAbs.log2 - 52)) (Nat.two_pow_pos _)
    rw [rung_of_rnd ht] at hT
    have hN : (un a + un b).natAbs ≠ 0 := fun h0 => by rw [h0] at hd; simp at hd
    have hlog := Nat.log2_self_le hN
    have hsum : (un a + un b).natAbs ≤ 2 * val 52 (rg a) := by have := un_abs a; have := un_abs b; omega
    have hva := val_mm a
    generalize hdd : (un a + un b).natAbs.log2 - 52 = d at *
    have hl2 : (un a + un b).natAbs.log2 = d + 52 := by omega
    rw [hl2, Nat.pow_add] at hlog
    have hru : ∃ q : Int, ru (un a + un b) = q * 2 ^ d := by
      unfold ru
      rw [hT, Int.natCast_mul, Int.natCast_pow]
      split
      · exact ⟨-(_ : Int), by rw [Int.neg_mul]; rfl⟩
      · exact ⟨_, rfl⟩
    have herr : (un a + un b - ru (un a + un b)).natAbs ≤ 2 ^ d / 2 := by
      unfold ru
      rw [hT]
      rw [Nat.mul_comm] at hbd
      generalize rhe (un a + un b).natAbs (2 ^ d) * 2 ^ d = T at *
      split <;> omega
    have hdist : (un a - ru (un a + un b)).natAbs ≤ mM b * 2 ^ mE b + 2 ^ d / 2 := by
      have := un_abs b
      have := val_mm b
      omega
    obtain ⟨q, hq⟩ := hru
    have hpd := Nat.two_pow_pos d
    have hpj : 2 * 2 ^ mE b ≤ 2 ^ d := by
      rw [← Nat.pow_succ']; exact Nat.pow_le_pow_right (by decide) hd
    rcases Nat.lt_or_ge (mE a) d with hi | hi
    · have hd1 : d = mE a + 1 := by
        have h5 : 2 ^ d * 2 ^ 52 < 2 ^ (mE a) * 2 ^ 54 := by
          have : mM a * 2 ^ mE a < 2 ^ 53 * 2 ^ mE a := Nat.mul_lt_mul_of_pos_right (by rw [show (2 : Nat) ^ 53 = 9007199254740992 by decide]; exact hma) (Nat.two_pow_pos _)
          rw [show (2 : Nat) ^ 54 = 2 * 2 ^ 53 by decide]
          rw [Nat.mul_comm (2 ^ mE a)]
          rw [Nat.mul_assoc]
          omega
        rw [← Nat.pow_add, ← Nat.pow_add] at h5
        have := (Nat.pow_lt_pow_iff_right (by decide)).1 h5
        omega
      have hD : un a - ru (un a + un b) = (ka - q * 2) * 2 ^ mE a := by
        rw [hq, hd1, ea, Int.sub_mul, Int.pow_succ]
        congr 1
        rw [Int.mul_assoc, Int.mul_comm 2]
      refine rep_of_mult _ _ (mE a) r hD ?_ hr hfin
      rw [hD, abs_mul] at hdist
      refine le_of_mul _ _ (mE a) (Nat.le_trans hdist ?_)
      have h6 : 2 ^ d / 2 = 2 ^ mE a := by rw [hd1, Nat.pow_succ]; omega
      have h7 : mM b * 2 ^ mE b ≤ mM b * 2 ^ mE a := Nat.mul_le_mul_left _ (Nat.pow_le_pow_right (by decide) hj)
      have h8 : (mM b + 1) * 2 ^ mE a ≤ 9007199254740992 * 2 ^ mE a := Nat.mul_le_mul_right _ (by omega)
      rw [Nat.add_mul, Nat.one_mul] at h8
      omega
    · obtain ⟨kd, ed⟩ := un_mult a d hi
      have hD : un a - ru (un a + un b) = (kd - q) * 2 ^ d := by rw [hq, ed, Int.sub_mul]
      refine rep_of_mult _ _ d r hD ?_ hr hfin
      rw [hD, abs_mul] at hdist
      refine le_of_mul _ _ d (Nat.le_trans hdist ?_)
      have h7 : mM b * 2 ^ mE b ≤ 9007199254740992 * 2 ^ mE b := Nat.mul_le_mul_right _ (by omega)
      omega
end Go.Proofs.Ytelalledjbeenaa
