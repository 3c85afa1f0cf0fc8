/- What is printed is read again. Plain laws. No fewer digits are read as the number. Plain laws. galleylaw03.goes; one more in the last place, in plain words. galleylaw03.more: a row of bytes of the call's own. galleylaw03.more: the walk. galleylaw03.more. galleyref03.less. galleyref03's reads. galleyref03.ratio. galleyref03.place; value at any point. -/
import Derived.Test.YtjkifbkehochoaaGreatDoorMgDkB
import Derived.Test.YtjkifbkehochoaaGreatDoorMgDmK
import Derived.Test.YtjkifbkehochoaaGreatDoorMgDhK
import Derived.Test.YtjkifbkehochoaaGreatDoorMgQV
import Derived.Test.YtjkifbkehochoaaGreatDoorDjC
import Derived.Test.YtjkifbkehochoaaGreatDoorMgDhF
namespace Go.Proofs.YtjkifbkehochoaaGreatDoor
open Fl
theorem sh_parts {b : Nat} (h0 : 0 < b) (h1 : b < INF) : ∃ d m : Nat, shS b = (d, m) ∧ shD b = trimD (dgs d) ∧ shP b = placeF (V b) + Lib.nDigits d - m ∧ 0 < d ∧ d < 1000000000000000000 ∧ 1 ≤ m ∧ m ≤ 17 ∧ selS b (placeF (V b)) m = some d ∧ IsP (V b) (placeF (V b)) ∧ -359 ≤ placeF (V b) ∧ placeF (V b) ≤ 350 ∧ ∀ i, 1 ≤ i → i < m → selS b (placeF (V b)) i = none := by
  have v0 : 0 < V b := by have := V_lt h0; omega
  have vI : V b ≤ V INF := V_le (Nat.le_of_lt h1)
  have hp := place_is v0 vI
  obtain ⟨r1, r2⟩ := hp.range v0 vI
  obtain ⟨d, m, e, m1, m2, hs, hn⟩ := srch_ends h0 h1 hp 17 1 (by omega) (by omega) (by omega)
  have hq := q_range hp (n := m) m1
  have h17 := e17s m2
  have hp0 := Nat.pow_pos (n := m - 1) (show 0 < 10 by decide)
  have hd : 0 < d ∧ d < 1000000000000000000 := by
    rcases (sel_read hs).2 with c | c <;> omega
  have eS : shS b = (d, m) := e
  exact ⟨d, m, eS, by unfold shD; rw [if_neg (by omega), eS], by unfold shP; rw [if_neg (by omega), eS], hd.1, hd.2, m1, m2, hs, hp, r1, r2, hn⟩
theorem sh_reads {b : Nat} (h0 : 0 < b) (h1 : b < INF) : readF (shD b) (shP b) = b ∧ DG (shD b) ∧ shD b ≠ [] := by
  obtain ⟨d, m, -, e1, e2, d0, d1, m1, m2, hs, hp, r1, r2, -⟩ := sh_parts h0 h1
  have nd : Lib.nDigits d ≤ 18 := nd_le (by have : (10 : Nat) ^ 18 = 1000000000000000000 := by decide
                                            omega) (by decide)
  have nd1 : 0 < Lib.nDigits d := by rw [← dgs_len]; exact List.length_pos_iff.2 (dgs_ne d)
  rw [e1, e2]
  refine ⟨?_, fun x hx => dgs_dg d x (List.mem_of_mem_take hx), trim_ne d0⟩
  generalize placeF (V b) = p at *
  rw [read_dgs d0 (by omega) (by omega) (by omega), show p + (Lib.nDigits d : Int) - m - Lib.nDigits d = p - m by omega, show (-(p - (m : Int))).toNat = ((m : Int) - p).toNat by omega]
  have := (sel_read hs).1
  unfold rdS at this
  exact of_decide_eq_true this
/-- it does not go on with what stands ahead of it -/
def Ends (R : List Nat) : Prop := NDg R ∧ R.getD 0 0 ≠ 46 ∧ R.getD 0 0 ≠ 101 ∧ R.getD 0 0 ≠ 69
theorem ends_nil : Ends [] := ⟨ndg_nil, by decide, by decide, by decide⟩
def sgV (S : List Nat) : Nat := if S = [45] then 9223372036854775808 else 0
theorem read_48 : readF [48] 1 = 0 := by decide +kernel
theorem parse_D {b : Nat} {D S R : List Nat} {p : Int} (hS : Sgn S) (hR : Ends R) (hD : DG D) (h0 : D ≠ []) (hr : readF D p = b) (hl : D.length ≤ 18) (p1 : -400 ≤ p) (p2 : p ≤ 400) :
    pW (S ++ printD D p ++ R) = b + sgV S ∧ pN (S ++ printD D p ++ R) = S.length + (printD D p).length ∧ pErr (S ++ printD D p ++ R) = 0 := by
  obtain ⟨ne1, ne2⟩ := no_exp ⟨hR.2.2.1, hR.2.2.2⟩
  have lp : 0 < D.length := List.length_pos_iff.2 h0
  have Z : ∀ k, DG (List.replicate k 48) := fun k x hx => by have := List.eq_of_mem_replicate hx; omega
  by_cases c1 : (D.length : Int) ≤ p ∧ p ≤ 21
  · rw [d1 c1.1 c1.2]
    have hW : DG (D ++ List.replicate (p - D.length).toNat 48) := fun x hx => by
      rcases List.mem_append.1 hx with hx | hx
      · exact hD x hx
      · exact Z _ x hx
    obtain ⟨a, b2, c⟩ := shape_plain hS hW (fun e => h0 (List.append_eq_nil_iff.1 e).1) hR.1 hR.2.1
    refine ⟨?_, ?_, c⟩
    · rw [a, ne1, Int.add_zero, read_behind, List.length_append, List.length_replicate, show ((D.length + (p - D.length).toNat : Nat) : Int) = p by omega, hr]; rfl
    · rw [b2, ne2, Nat.add_zero]
  · by_cases c2 : 1 ≤ p ∧ p ≤ 21
    · rw [d2 (by omega) c2.1 c2.2, show S ++ (D.take p.toNat ++ [46] ++ D.drop p.toNat) ++ R = S ++ D.take p.toNat ++ 46 :: (D.drop p.toNat ++ R) by simp [List.append_assoc]]
      have lt : (D.take p.toNat).length = p.toNat := by rw [List.length_take]; omega
      have n0 : D.take p.toNat ≠ [] := fun e => by rw [e, List.length_nil] at lt; omega
      obtain ⟨a, b2, c⟩ := shape_point hS (fun x hx => hD x (List.mem_of_mem_take hx)) n0 (fun x hx => hD x (List.mem_of_mem_drop hx)) hR.1
      refine ⟨?_, ?_, c⟩
      · rw [a, ne1, Int.add_zero, List.take_append_drop, lt, Int.toNat_of_nonneg (by omega), hr]; rfl
      · rw [b2, ne2, lt]
        simp only [List.length_append, List.length_drop, List.length_cons, List.length_nil, lt]
        omega
    · by_cases c3 : -5 ≤ p ∧ p ≤ 0
      · rw [d3 (by omega) c3.1 c3.2, show S ++ ([48, 46] ++ List.replicate (-p).toNat 48 ++ D) ++ R = S ++ [48] ++ 46 :: ((List.replicate (-p).toNat 48 ++ D) ++ R) by simp [List.append_assoc]]
        have hF : DG (List.replicate (-p).toNat 48 ++ D) := fun x hx => by
          rcases List.mem_append.1 hx with hx | hx
          · exact Z _ x hx
          · exact hD x hx
        obtain ⟨a, b2, c⟩ := shape_point hS (W := [48]) (fun x hx => by rw [List.mem_singleton.1 hx]; decide) (by decide) hF hR.1
        have e1 : [48] ++ (List.replicate (-p).toNat 48 ++ D) = List.replicate ((-p).toNat + 1) 48 ++ D := by rw [List.replicate_succ]; rfl
        refine ⟨?_, ?_, c⟩
        · have := read_ahead D ((-p).toNat + 1) p
          rw [show p + (((-p).toNat + 1 : Nat) : Int) = 1 by omega] at this
          rw [a, ne1, e1, show (([48] : List Nat).length : Int) + 0 = 1 from rfl, this, hr]; rfl
        · rw [b2, ne2]
          simp only [List.length_append, List.length_replicate, List.length_cons, List.length_nil]
          omega
      · have key : ∀ (s : Nat) (k : Nat), (s = 43 ∨ s = 45) → k ≤ 1000 → ((1 : Int) + (if s = 45 then -(k : Int) else (k : Int)) = p) →
            pW (S ++ (D.take 1 ++ (if 1 < D.length then 46 :: D.drop 1 else []) ++ ([101, s] ++ dgs k)) ++ R) = b + sgV S ∧ pN (S ++ (D.take 1 ++ (if 1 < D.length then 46 :: D.drop 1 else []) ++ ([101, s] ++ dgs k)) ++ R) = S.length + (D.take 1 ++ (if 1 < D.length then 46 :: D.drop 1 else []) ++ ([101, s] ++ dgs k)).length ∧ pErr (S ++ (D.take 1 ++ (if 1 < D.length then 46 :: D.drop 1 else []) ++ ([101, s] ++ dgs k)) ++ R) = 0 := by
          intro s k hs hk he
          obtain ⟨x1, x2⟩ := an_exp (R := R) hs (dgs_dg k) (dgs_ne k) hR.1 (by rw [dgs_val]; unfold FAR; omega)
          rw [dgs_val] at x1
          have lt : (D.take 1).length = 1 := by rw [List.length_take]; omega
          have n0 : D.take 1 ≠ [] := fun e => by rw [e] at lt; cases lt
          have nd : NDg (101 :: s :: (dgs k ++ R)) := ndg_cons (by omega)
          by_cases c : 1 < D.length
          · rw [if_pos c, show S ++ (D.take 1 ++ 46 :: D.drop 1 ++ ([101, s] ++ dgs k)) ++ R = S ++ D.take 1 ++ 46 :: (D.drop 1 ++ (101 :: s :: (dgs k ++ R))) by simp [List.append_assoc]]
            obtain ⟨a, b2, c⟩ := shape_point hS (fun x hx => hD x (List.mem_of_mem_take hx)) n0 (fun x hx => hD x (List.mem_of_mem_drop hx)) nd
            refine ⟨?_, ?_, c⟩
            · rw [a, x1, List.take_append_drop, lt, show ((1 : Nat) : Int) = 1 from rfl, he, hr]; rfl
            · rw [b2, x2, lt]
              simp only [List.length_append, List.length_drop, List.length_cons, List.length_nil, lt]
              omega
          · rw [if_neg c, show S ++ (D.take 1 ++ [] ++ ([101, s] ++ dgs k)) ++ R = S ++ D.take 1 ++ (101 :: s :: (dgs k ++ R)) by simp [List.append_assoc]]
            obtain ⟨a, b2, c⟩ := shape_plain hS (fun x hx => hD x (List.mem_of_mem_take hx)) n0 nd (by show (101 : Nat) ≠ 46; decide)
            have e1 : D.take 1 = D := List.take_of_length_le (by omega)
            refine ⟨?_, ?_, c⟩
            · rw [a, x1, lt, show ((1 : Nat) : Int) = 1 from rfl, he, e1, hr]; rfl
            · rw [b2, x2, lt]
              simp only [List.length_append, List.length_cons, List.length_nil, lt]
              omega
        by_cases c4 : p < -5
        · rw [d4 c4]
          exact key 45 (1 - p).toNat (.inr rfl) (by omega) (by rw [if_pos rfl]; omega)
        · rw [d5 (show 21 < p by omega)]
          exact key 43 (p - 1).toNat (.inl rfl) (by omega) (by rw [if_neg (by decide)]; omega)
/-- THE LAYER's THEOREM, in plain words -/
theorem parse_print {x : Nat} (hx : U x) (hf : rg x < INF) {R : List Nat} (hR : Ends R) : pW (printF x ++ R) = x ∧ pN (printF x ++ R) = (printF x).length ∧ pErr (printF x ++ R) = 0 := by
  obtain ⟨S, hSe⟩ : ∃ S : List Nat, S = if sg x = true then [45] else [] := ⟨_, rfl⟩
  have hS : Sgn S := by
    rw [hSe]
    cases sg x
    · exact .inl rfl
    · exact .inr rfl
  have ep : printF x = S ++ bodyF (rg x) := by unfold printF; rw [if_neg (by omega), ← hSe]
  have ex : x = rg x + sgV S := by
    have := hx.lt
    rw [hSe]
    unfold sgV sg rg
    by_cases c : 9223372036854775808 ≤ x
    · rw [decide_eq_true c, if_pos rfl, if_pos rfl]; omega
    · rw [decide_eq_false c]; first | (rw [if_neg (by decide), if_neg (by decide)]; omega) | (rw [if_neg (by decide)]; omega) | (simp; omega)
  rw [ep, List.length_append]
  have key : pW (S ++ bodyF (rg x) ++ R) = rg x + sgV S ∧ pN (S ++ bodyF (rg x) ++ R) = S.length + (bodyF (rg x)).length ∧ pErr (S ++ bodyF (rg x) ++ R) = 0 := by
    unfold bodyF
    by_cases c0 : rg x = 0
    · rw [if_pos c0, c0]
      obtain ⟨ne1, ne2⟩ := no_exp ⟨hR.2.2.1, hR.2.2.2⟩
      obtain ⟨a, b2, c⟩ := shape_plain hS (W := [48]) (fun x hx => by rw [List.mem_singleton.1 hx]; decide) (by decide) hR.1 hR.2.1
      exact ⟨by rw [a, ne1, show (([48] : List Nat).length : Int) + 0 = 1 from rfl, read_48]; rfl, by rw [b2, ne2]; rfl, c⟩
    · rw [if_neg c0, if_neg (by omega)]
      obtain ⟨r1, r2, r3⟩ := sh_reads (b := rg x) (by omega) hf
      obtain ⟨l1, l2, p1, p2⟩ := sh_range (b := rg x) (by omega) hf
      exact parse_D hS hR r2 r3 r1 l2 p1 p2
  rw [← ex] at key
  exact key
end Go.Proofs.YtjkifbkehochoaaGreatDoor

namespace Go.Proofs.YtjkifbkehochoaaGreatDoor
open Fl
/-- one place less: the quotient's last digit falls -/
theorem q_down (v : Nat) (p : Int) (m : Nat) : qS v p m = qS v p (m + 1) / 10 := by
  unfold qS numS denS
  rcases Int.lt_or_le (m : Int) p with c | c
  · have e1 : ((m : Int) - p).toNat = 0 := by omega
    have e2 : (((m + 1 : Nat) : Int) - p).toNat = 0 := by omega
    have e3 : (p - (m : Int)).toNat = (p - ((m + 1 : Nat) : Int)).toNat + 1 := by omega
    rw [e1, e2, e3, Nat.pow_succ, ← Nat.mul_assoc, ← Nat.div_div_eq_div_mul]
  · have e1 : (((m + 1 : Nat) : Int) - p).toNat = ((m : Int) - p).toNat + 1 := by omega
    have e2 : (p - (m : Int)).toNat = 0 := by omega
    have e3 : (p - ((m + 1 : Nat) : Int)).toNat = 0 := by omega
    rw [e1, e2, e3, Nat.pow_zero, Nat.mul_one, Nat.pow_succ, ← Nat.mul_assoc, Nat.div_div_eq_div_mul, Nat.mul_div_mul_right _ _ (by decide)]
theorem rds_down (b : Nat) (p : Int) (m e : Nat) : rdS b p m e = rdS b p (m + 1) (10 * e) := by
  unfold rdS
  generalize TK = t
  suffices key : rungM (e * 10 ^ (p - (m : Int)).toNat * t) (10 ^ ((m : Int) - p).toNat) = rungM (10 * e * 10 ^ (p - ((m + 1 : Nat) : Int)).toNat * t) (10 ^ (((m + 1 : Nat) : Int) - p).toNat) by rw [key]
  rcases Int.lt_or_le (m : Int) p with c | c
  · have e1 : ((m : Int) - p).toNat = 0 := by omega
    have e2 : (((m + 1 : Nat) : Int) - p).toNat = 0 := by omega
    have e3 : (p - (m : Int)).toNat = (p - ((m + 1 : Nat) : Int)).toNat + 1 := by omega
    rw [e1, e2, e3, Nat.pow_succ, Nat.mul_comm (10 ^ _) 10, ← Nat.mul_assoc, Nat.mul_comm e 10]
  · have e1 : (((m + 1 : Nat) : Int) - p).toNat = ((m : Int) - p).toNat + 1 := by omega
    have e2 : (p - (m : Int)).toNat = 0 := by omega
    have e3 : (p - ((m + 1 : Nat) : Int)).toNat = 0 := by omega
    rw [e1, e2, e3, Nat.pow_zero, Nat.mul_one, Nat.mul_one, Nat.pow_succ, Nat.mul_comm 10 e, Nat.mul_right_comm, rungM_scale _ _ _ (by decide)]
theorem sel_none {b n : Nat} {p : Int} (h : selS b p n = none) : rdS b p n (qS (V b) p n) = false ∧ rdS b p n (qS (V b) p n + 1) = false := by
  unfold selS at h
  by_cases k1 : rdS b p n (qS (V b) p n) = true
  · rw [if_pos k1] at h
    split at h <;> cases h
  · rw [if_neg k1] at h
    by_cases k2 : rdS b p n (qS (V b) p n + 1) = true
    · rw [if_pos k2] at h; cases h
    · exact ⟨by simpa using k1, by simpa using k2⟩
theorem trim_whole {l : List Nat} {x : Nat} (h : x ≠ 48) : trimD (l ++ [x]) = l ++ [x] := by
  unfold trimD
  rw [List.length_append, List.length_cons, List.length_nil, te, if_neg, List.take_of_length_le]
  · rw [List.length_append]; exact Nat.le_refl _
  · intro e
    have : (l ++ [x]).getD l.length 0 = x := by rw [List.getD, List.getElem?_append_right (Nat.le_refl _), Nat.sub_self]; rfl
    omega
/-- as what the digits of a number are read -/
theorem read_at {b d n : Nat} {p : Int} (d0 : 0 < d) (hd : Lib.nDigits d ≤ 18) (p1 : -359 ≤ p) (p2 : p ≤ 350) (n2 : n ≤ 17) :
    readF (dgs d) (p + Lib.nDigits d - n) = b ↔ rdS b p n d = true := by
  have nd1 := Lib.nDigits_pos d
  rw [← read_trim, read_dgs d0 (by omega) (by omega) (by omega), show p + (Lib.nDigits d : Int) - n - Lib.nDigits d = p - n by omega, show (-(p - (n : Int))).toNat = ((n : Int) - p).toNat by omega]
  unfold rdS TK
  rw [decide_eq_true_eq]
/-- what DigitsBack asks of the digits -/
theorem sh_fewest {b : Nat} (h0 : 0 < b) (h1 : b < INF) : (shD b).length ≤ 17 ∧ (shD b).getD 0 0 ≠ 48 ∧ (shD b).getD ((shD b).length - 1) 0 ≠ 48 ∧
    ((shD b).length = 1 ∨ ∃ q, 0 < q ∧ q < 100000000000000000 ∧ 1 < (shD b).length ∧ (shD b).take ((shD b).length - 1) = dgs q ∧ readF (dgs q) (shP b) ≠ b ∧ readF (dgs (q + 1)) (shP b + (Lib.nDigits (q + 1) - Lib.nDigits q)) ≠ b) := by
  obtain ⟨d, m, -, e1, e2, d0, d1, m1, m2, hs, hp, r1, r2, hn⟩ := sh_parts h0 h1
  generalize placeF (V b) = p at *
  rw [e1, e2]
  have hq := q_range hp (n := m) m1
  have hsel := sel_read hs
  have h17 := e17s m2
  rcases Nat.eq_or_lt_of_le m1 with c | c
  · subst c
    have hd : d ≤ 10 := by
      rcases hsel.2 with k | k <;> omega
    have key : ∀ d, d ≤ 10 → 0 < d → (trimD (dgs d)).length = 1 ∧ (trimD (dgs d)).getD 0 0 ≠ 48 := by
      intro d hd d0
      rcases Nat.lt_or_ge d 10 with g | g
      · have : trimD (dgs d) = [48 + d] := by rw [dgs_small g]; exact trim_whole (l := []) (by omega)
        rw [this]
        exact ⟨rfl, by show 48 + d ≠ 48; omega⟩
      · obtain rfl : d = 10 := by omega
        have : trimD (dgs 10) = [49] := by rw [dgs_big (by decide), dgs_small (by decide)]; decide
        rw [this]
        exact ⟨rfl, by decide⟩
    obtain ⟨k1, k2⟩ := key d hd d0
    rw [k1]
    exact ⟨by omega, k2, k2, .inl rfl⟩
  · obtain ⟨n, rfl⟩ : ∃ n, m = n + 1 := ⟨m - 1, by omega⟩
    have hnone := sel_none (hn n (by omega) (by omega))
    have hqd := q_down (V b) p n
    have hq2 := q_range hp (n := n) (by omega)
    obtain ⟨Q, hQ⟩ : ∃ Q, Q = qS (V b) p n := ⟨_, rfl⟩
    rw [← hQ] at hnone hqd hq2
    generalize qS (V b) p (n + 1) = q at *
    rw [Nat.add_sub_cancel] at hq
    have t1 : 10 ≤ 10 ^ n := by
      have := Nat.pow_le_pow_right (show 0 < 10 by decide) (show 1 ≤ n by omega)
      rwa [Nat.pow_one] at this
    have hlast : d % 10 ≠ 0 := fun e => by
      have h2 := rds_down b p n (d / 10)
      rw [show 10 * (d / 10) = d by omega, hsel.1] at h2
      rcases hsel.2 with k | k
      · rw [show d / 10 = Q by omega, hnone.1] at h2; cases h2
      · rw [show d / 10 = Q + 1 by omega, hnone.2] at h2; cases h2
    have hdQ : d / 10 = Q := by
      rcases hsel.2 with k | k <;> omega
    have hdlt : d < 10 ^ (n + 1) := by
      rcases hsel.2 with k | k
      · omega
      · rcases Nat.lt_or_ge d (10 ^ (n + 1)) with g | g
        · exact g
        · exfalso
          have : d = 10 * 10 ^ n := by rw [Nat.pow_succ] at g hq; omega
          omega
    have hdge : 10 ^ n ≤ d := by
      rcases hsel.2 with k | k <;> omega
    have nd : Lib.nDigits d = n + 1 := Lib.nDigits_unique n d hdge hdlt
    have hbig : dgs d = dgs Q ++ [48 + d % 10] := by rw [dgs_big (by omega), hdQ]
    have htr : trimD (dgs d) = dgs d := by rw [hbig]; exact trim_whole (by omega)
    have hlen : (dgs d).length = n + 1 := by rw [dgs_len, nd]
    have hQ0 : 0 < Q := by
      have := Nat.pow_pos (n := n - 1) (show 0 < 10 by decide)
      omega
    have hlenQ : (dgs Q).length = n := by
      have := congrArg List.length hbig
      rw [List.length_append, List.length_cons, List.length_nil] at this
      omega
    have ndQ : Lib.nDigits Q = n := by rw [← dgs_len]; exact hlenQ
    have ndQ1 : Lib.nDigits (Q + 1) ≤ 18 := by
      refine nd_le ?_ (by decide)
      have : (10 : Nat) ^ 18 = 1000000000000000000 := by decide
      have := e17s (show n ≤ 17 by omega)
      omega
    rw [htr, hlen, nd]
    refine ⟨m2, dgs_head d d0, ?_, .inr ⟨Q, hQ0, ?_, by omega, ?_, ?_, ?_⟩⟩
    · rw [Nat.add_sub_cancel, hbig, List.getD, List.getElem?_append_right (by omega), hlenQ, Nat.sub_self]
      show 48 + d % 10 ≠ 48
      omega
    · have := e17s (show n ≤ 17 by omega)
      omega
    · rw [Nat.add_sub_cancel, hbig, ← hlenQ, List.take_left]
    · intro e
      have h3 := (read_at (b := b) (d := Q) (n := n) (p := p) hQ0 (by omega) r1 r2 (by omega)).1 (by rw [ndQ, show p + (n : Int) - n = p + ((n + 1 : Nat) : Int) - ((n + 1 : Nat) : Int) by omega]; exact e)
      rw [hnone.1] at h3; cases h3
    · intro e
      have h3 := (read_at (b := b) (d := Q + 1) (n := n) (p := p) (by omega) ndQ1 r1 r2 (by omega)).1 (by rw [show p + (Lib.nDigits (Q + 1) : Int) - n = p + ((n + 1 : Nat) : Int) - ((n + 1 : Nat) : Int) + ((Lib.nDigits (Q + 1) : Int) - (Lib.nDigits Q : Int)) by omega]; exact e)
      rw [hnone.2] at h3; cases h3
end Go.Proofs.YtjkifbkehochoaaGreatDoor

namespace Go.Proofs.YtjkifbkehochoaaGreatDoor
open Go.RowKit Fl
theorem ends_of {s : ByteArray} (h : 0 < s.size) (h1 : ¬ (48 ≤ (s[0]).toNat ∧ (s[0]).toNat ≤ 57)) (h2 : (s[0]).toNat ≠ 46) (h3 : (s[0]).toNat ≠ 101) (h4 : (s[0]).toNat ≠ 69) : Ends (bl s) := by
  have g : (bl s).getD 0 0 = (s[0]).toNat := bl_getD s 0 h
  obtain ⟨x, r, e⟩ : ∃ x r, bl s = x :: r := by
    cases hb : bl s with
    | nil => have := bl_len s; rw [hb] at this; simp at this; omega
    | cons x r => exact ⟨x, r, rfl⟩
  have gx : x = (s[0]).toNat := by rw [← g, e]; rfl
  unfold Ends
  rw [g, e]
  exact ⟨ndg_cons (by rw [gx]; exact h1), h2, h3, h4⟩
def GoesR (s : ByteArray) (e : Ending) : Prop := ∃ g, e = .returned (.bool g) ∧ (g = false → Ends (bl s))
set_option maxRecDepth 100000 in
set_option maxHeartbeats 1000000 in
theorem cGoes (s : ByteArray) (w : World) (hs : s.size ≤ 4611686018427387904) : Calls Tryz.prog 21 #[.string s] w fun e w' => GoesR s e ∧ w = w' := by
  by_cases h : s.size = 0
  · obtain ⟨e1, e2, e3⟩ := empty_bl h
    have E : Hid (Ends (bl s)) := Lib.hid (by rw [e3]; exact ends_nil)
    clear e3 h hs
    go_enter Tryz.func21, Tryz.ntmps21
    go_wp2
    go_ret
    exact ⟨⟨_, rfl, fun _ => E.out⟩, rfl⟩
  · have h0 : 0 < s.size := by omega
    obtain ⟨e1, e2⟩ := full_bl (s := s) h0
    have h0i : (0 : Int) < (s.size : Int) := by omega
    have EN := Lib.hid (ends_of h0)
    obtain ⟨c, hc⟩ : ∃ c, c = (s[0]).toNat := ⟨_, rfl⟩
    have lt : c < 256 := by rw [hc]; exact UInt8.toNat_lt _
    rw [← hc] at EN
    have hci : ((s[0]).toNat : Int) = (c : Int) := by omega
    clear h
    rcases Nat.lt_or_ge c 48 with c1 | c1
    · have g1 : ¬ (48 : Int) ≤ (c : Int) := by omega
      by_cases c2 : c = 46
      · subst c2
        go_enter Tryz.func21, Tryz.ntmps21
        go_wp2
        go_ret
        exact ⟨⟨_, rfl, fun e => nomatch e⟩, rfl⟩
      · have E := Lib.hid (EN.out (by omega) c2 (by omega) (by omega))
        have g2 : ((c : Int) == 46) = false := beq_eq_false_iff_ne.2 (by omega)
        have g3 : ((c : Int) == 101) = false := beq_eq_false_iff_ne.2 (by omega)
        have g4 : ((c : Int) == 69) = false := beq_eq_false_iff_ne.2 (by omega)
        go_enter Tryz.func21, Tryz.ntmps21
        go_wp2
        go_ret
        exact ⟨⟨_, rfl, fun _ => E.out⟩, rfl⟩
    · have g1 : (48 : Int) ≤ (c : Int) := by omega
      by_cases c2 : c ≤ 57
      · have g2 : (c : Int) ≤ 57 := by omega
        go_enter Tryz.func21, Tryz.ntmps21
        go_wp2
        go_ret
        exact ⟨⟨_, rfl, fun e => nomatch e⟩, rfl⟩
      · have g2 : ¬ (c : Int) ≤ 57 := by omega
        have g5 : ((c : Int) == 46) = false := beq_eq_false_iff_ne.2 (by omega)
        by_cases c3 : c = 101
        · subst c3
          go_enter Tryz.func21, Tryz.ntmps21
          go_wp2
          go_ret
          exact ⟨⟨_, rfl, fun e => nomatch e⟩, rfl⟩
        · have g3 : ((c : Int) == 101) = false := beq_eq_false_iff_ne.2 (by omega)
          by_cases c4 : c = 69
          · subst c4
            go_enter Tryz.func21, Tryz.ntmps21
            go_wp2
            go_ret
            exact ⟨⟨_, rfl, fun e => nomatch e⟩, rfl⟩
          · have E := Lib.hid (EN.out (by omega) (by omega) c3 c4)
            have g4 : ((c : Int) == 69) = false := beq_eq_false_iff_ne.2 (by omega)
            go_enter Tryz.func21, Tryz.ntmps21
            go_wp2
            go_ret
            exact ⟨⟨_, rfl, fun _ => E.out⟩, rfl⟩
/-- nines at the end: one more -/
theorem dgs_nines : ∀ (k a : Nat), 0 < a → dgs (a * 10 ^ k + (10 ^ k - 1)) = dgs a ++ List.replicate k 57 ∧ dgs (a * 10 ^ k + (10 ^ k - 1) + 1) = dgs (a + 1) ++ List.replicate k 48
  | 0, a, _ => by
    rw [Nat.pow_zero, Nat.mul_one]
    exact ⟨(List.append_nil _).symm, (List.append_nil _).symm⟩
  | k + 1, a, h => by
    obtain ⟨i1, i2⟩ := dgs_nines k a h
    have hp := Nat.pow_pos (n := k) (show 0 < 10 by decide)
    have e : a * 10 ^ (k + 1) + (10 ^ (k + 1) - 1) = 10 * (a * 10 ^ k + (10 ^ k - 1)) + 9 := by
      rw [Nat.pow_succ, ← Nat.mul_assoc]
      generalize a * 10 ^ k = t
      omega
    have p1 : 0 < a * 10 ^ k := Nat.mul_pos h hp
    constructor
    · rw [e, dgs_big (by omega), show (10 * (a * 10 ^ k + (10 ^ k - 1)) + 9) / 10 = a * 10 ^ k + (10 ^ k - 1) by omega, show (10 * (a * 10 ^ k + (10 ^ k - 1)) + 9) % 10 = 9 by omega, i1, List.append_assoc, List.replicate_succ']
    · rw [e, dgs_big (by omega), show (10 * (a * 10 ^ k + (10 ^ k - 1)) + 9 + 1) / 10 = a * 10 ^ k + (10 ^ k - 1) + 1 by omega, show (10 * (a * 10 ^ k + (10 ^ k - 1)) + 9 + 1) % 10 = 0 by omega, i2, List.append_assoc, List.replicate_succ']
end Go.Proofs.YtjkifbkehochoaaGreatDoor

namespace Go.Proofs.YtjkifbkehochoaaGreatDoor
open Go.RowKit Fl
/-- a row of bytes that may be written -/
def BRow (w : World) (B : Nat) (l : List Nat) : Prop := B < w.heap.size ∧ (∀ x ∈ l, x < 256) ∧ ∀ (j x : Nat), l[j]? = some x → w.cell? ⟨B, j, none⟩ = some (.int .u8 (x : Int)) ∧ w.frozen? ⟨B, j, none⟩ = false
theorem BRow.start (w : World) (s : ByteArray) : BRow (Lib.bytesWorld w 5 s) w.heap.size (bl s) := by
  refine ⟨by rw [Lib.bytesWorld_size]; omega, fun x hx => ?_, fun j x hj => ?_⟩
  · unfold bl at hx
    obtain ⟨y, -, rfl⟩ := List.mem_map.1 hx
    exact UInt8.toNat_lt y
  · have hj2 : j < s.size := by
      have := (List.getElem?_eq_some_iff.1 hj).1
      rwa [bl_len] at this
    have hc := Lib.bytesWorld_cell w 5 s j hj2
    have hx : ((s.data.toList.getD j 0).toNat) = x := by
      unfold bl at hj
      rw [List.getElem?_map, Option.map_eq_some_iff] at hj
      obtain ⟨y, hy, rfl⟩ := hj
      rw [List.getD, hy]; rfl
    refine ⟨by rw [hc, ← hx], ?_⟩
    unfold World.frozen?
    rw [Lib.bytesWorld_at_new]
    have hz : s.size ≤ (Lib.bytesCells w 5 s).size := by
      unfold Lib.bytesCells
      rw [Array.size_append, Array.size_map]
      show s.data.size ≤ _
      omega
    simp
    omega
theorem BRow.set {w : World} {B i y : Nat} {l : List Nat} (h : BRow w B l) (hi : i < l.length) (hy : y < 256) : BRow (w.setCell ⟨B, i, none⟩ (.int .u8 (y : Int))) B (l.set i y) := by
  refine ⟨by simpa using h.1, fun x hx => ?_, fun j x hj => ?_⟩
  · rcases List.mem_or_eq_of_mem_set hx with k | k
    · exact h.2.1 x k
    · omega
  · have hold := (h.2.2 i l[i] (List.getElem?_eq_getElem hi)).1
    have hjl : j < l.length := by
      have := (List.getElem?_eq_some_iff.1 hj).1
      rwa [List.length_set] at this
    have hfr := (h.2.2 j l[j] (List.getElem?_eq_getElem hjl)).2
    refine ⟨?_, by rw [World.frozen?_setCell]; exact hfr⟩
    by_cases e : i = j
    · subst e
      rw [World.cell?_setCell_same _ _ _ hold]
      rw [List.getElem?_set_self hi] at hj
      rw [Option.some.inj hj]
    · rw [World.cell?_setCell_other _ _ _ _ (fun k => e (Addr.mk.inj k).2.1)]
      rw [List.getElem?_set_ne e] at hj
      exact (h.2.2 j x hj).1
/-- read as a text -/
theorem BRow.text {w : World} {B : Nat} {l : List Nat} (h : BRow w B l) (cap : Nat) : ∃ z : ByteArray, bl z = l ∧ (convert 52 9 (.slice (some ⟨B, 0, none⟩) l.length cap)).run Tryz.prog w = .ok (.string z) w := by
  have e1 : (l.map UInt8.ofNat).map UInt8.toNat = l := by
    have : ∀ l : List Nat, (∀ x ∈ l, x < 256) → (l.map UInt8.ofNat).map UInt8.toNat = l := by
      intro l
      induction l with
      | nil => intro _; rfl
      | cons x r ih =>
        intro hx
        rw [List.map_cons, List.map_cons, ih (fun y hy => hx y (List.mem_cons_of_mem _ hy))]
        congr 1
        exact UInt8.toNat_ofNat_of_lt' (hx x List.mem_cons_self)
    exact this l h.2.1
  have h2 := run_convert_bytes_back (P := Tryz.prog) w 52 9 5 ⟨B, 0, none⟩ cap (l.map UInt8.ofNat) Tryz.underlying52 Tryz.underlying5 Tryz.underlying9 (fun j hj => by
    rw [List.length_map] at hj
    rw [Lib.add_plain, Nat.zero_add, (h.2.2 j l[j] (List.getElem?_eq_getElem hj)).1, List.getElem_map]
    rw [UInt8.toNat_ofNat_of_lt' (h.2.1 _ (List.getElem_mem hj))])
  rw [List.length_map] at h2
  exact ⟨⟨(l.map UInt8.ofNat).toArray⟩, e1, h2⟩
end Go.Proofs.YtjkifbkehochoaaGreatDoor

namespace Go.Proofs.YtjkifbkehochoaaGreatDoor
open Go.RowKit Fl
theorem row_len (a k : Nat) : (dgs a ++ List.replicate k 48).length = (dgs a).length + k := by rw [List.length_append, List.length_replicate]
theorem row_at {a k : Nat} : (dgs a ++ List.replicate k 48)[(dgs a).length - 1]? = some (48 + a % 10) := by
  have hp := List.length_pos_iff.2 (dgs_ne a)
  rw [List.getElem?_append_left (by omega)]
  by_cases h : a < 10
  · rw [dgs_small h, Nat.mod_eq_of_lt h]; rfl
  · rw [dgs_big h, List.length_append, List.length_cons, List.length_nil, Nat.add_sub_cancel, List.getElem?_append_right (Nat.le_refl _), Nat.sub_self]; rfl
theorem set_mid (u v : List Nat) (x y : Nat) : (u ++ [x] ++ v).set u.length y = u ++ [y] ++ v := by
  rw [List.append_assoc, List.append_assoc, List.set_append_right _ _ (Nat.le_refl _), Nat.sub_self]; rfl
/-- one more, no nine -/
theorem row_up {a k : Nat} (h : a % 10 ≠ 9) : (dgs a ++ List.replicate k 48).set ((dgs a).length - 1) (48 + a % 10 + 1) = dgs (a + 1) ++ List.replicate k 48 ∧ (dgs (a + 1)).length = (dgs a).length := by
  by_cases c : a < 10
  · rw [dgs_small c, dgs_small (show a + 1 < 10 by omega), Nat.mod_eq_of_lt c]
    exact ⟨rfl, rfl⟩
  · rw [dgs_big c, dgs_big (show ¬ a + 1 < 10 by omega), show (a + 1) / 10 = a / 10 by omega, show (a + 1) % 10 = a % 10 + 1 by omega, List.length_append, List.length_append, List.length_cons, List.length_nil, List.length_cons, List.length_nil, Nat.add_sub_cancel]
    exact ⟨set_mid _ _ _ _, rfl⟩
/-- a nine -/
theorem row_nine {a k : Nat} (h : a % 10 = 9) (h2 : 10 ≤ a) : (dgs a ++ List.replicate k 48).set ((dgs a).length - 1) 48 = dgs (a / 10) ++ List.replicate (k + 1) 48 ∧ (dgs a).length = (dgs (a / 10)).length + 1 := by
  rw [dgs_big (show ¬ a < 10 by omega), List.length_append, List.length_cons, List.length_nil, Nat.add_sub_cancel]
  refine ⟨?_, rfl⟩
  rw [set_mid, List.append_assoc]; rfl
theorem row_last {k : Nat} : (dgs 9 ++ List.replicate k 48).set 0 48 = List.replicate (k + 1) 48 := by
  rw [dgs_small (by decide)]; rfl
/-- where the rounds stand -/
def MS (w wx : World) (q : Nat) (i : Int) : Prop := Below w.heap.size w wx ∧
  ((∃ a k, 0 < a ∧ q = a * 10 ^ k + (10 ^ k - 1) ∧ i = ((dgs a).length : Int) - 1 ∧ (dgs q).length = (dgs a).length + k ∧ BRow wx w.heap.size (dgs a ++ List.replicate k 48)) ∨
   (i = -1 ∧ ∃ k, q + 1 = 10 ^ (k + 1) ∧ (dgs q).length = k + 1 ∧ BRow wx w.heap.size (List.replicate (k + 1) 48)))
theorem dgs_ten : ∀ k, dgs (10 ^ k) = 49 :: List.replicate k 48
  | 0 => by rw [Nat.pow_zero, dgs_small (by decide)]; rfl
  | k + 1 => by
    have hp := Nat.pow_pos (n := k) (show 0 < 10 by decide)
    rw [Nat.pow_succ, dgs_big (by omega), Nat.mul_div_cancel _ (by decide), Nat.mul_mod_left, dgs_ten k, List.replicate_succ']; rfl
end Go.Proofs.YtjkifbkehochoaaGreatDoor

namespace Go.Proofs.YtjkifbkehochoaaGreatDoor
open Go.RowKit Fl
theorem BRow.text' {w : World} {B : Nat} {l : List Nat} {N : Nat} (h : BRow w B l) (cap : Nat) (hl : l.length = N) : ∃ z : ByteArray, bl z = l ∧ (convert 52 9 (.slice (some ⟨B, 0, none⟩) N cap)).run Tryz.prog w = .ok (.string z) w := by
  subst hl; exact h.text cap
set_option maxRecDepth 100000 in
set_option maxHeartbeats 2000000 in
theorem cMore (s : ByteArray) (q : Nat) (w : World) (hs : bl s = dgs q) (q0 : 0 < q) (hl : (dgs q).length ≤ 18) :
    Calls Tryz.prog 23 #[.string s] w fun e w' => (∃ (z : ByteArray) (up : Int), e = .returned (.tuple #[.string z, .int .i64 up]) ∧ bl z = dgs (q + 1) ∧ up = (Lib.nDigits (q + 1) : Int) - Lib.nDigits q) ∧ Below w.heap.size w w' := by
  have kc : (convert 9 52 (.string s)).run Tryz.prog w = .ok (.slice (some ⟨w.heap.size, 0, none⟩) s.size (grownCap w s.size 0 5)) (Lib.bytesWorld w 5 s) := Lib.run_convert_string_bytes w 9 52 5 s Tryz.underlying9 Tryz.underlying52 Tryz.underlying5
  have ls : s.size = (dgs q).length := by rw [← bl_len, hs]
  have START : Hid (MS w (Lib.bytesWorld w 5 s) q ((s.size : Int) - 1)) := Lib.hid ⟨Lib.bytesWorld_below w 5 s, .inl ⟨q, 0, q0, by rw [Nat.pow_zero]; omega, by omega, by omega, by
    have := BRow.start w s
    rw [hs] at this
    rw [List.replicate_zero, List.append_nil]; exact this⟩⟩
  have LQ := Lib.hid (And.intro ls hl)
  have n1 : (s.size : Int) ≤ 18 := by omega
  have n0 : (1 : Int) ≤ (s.size : Int) := by have := List.length_pos_iff.2 (dgs_ne q); omega
  generalize Lib.bytesWorld w 5 s = w1 at *
  generalize grownCap w s.size 0 5 = cap at *
  clear hs ls hl
  go_enter Tryz.func23, Tryz.ntmps23
  go_wp2_with fail
  go_loopw [5] (fun i wx => ∃ z : Int, i = .int .i64 z ∧ -1 ≤ z ∧ z ≤ 17 ∧ Hid (MS w wx q z)) (fun i _ => (intOf i + 1).toNat)
  case atStart => exact ⟨_, by go_num, by omega, by omega, START⟩
  case round =>
    obtain ⟨z, rfl, z1, z2, hI⟩ := hrel
    clear START kc
    rcases hI.out.2 with ⟨a, k, a0, hq, hz, hlen, hrow⟩ | ⟨rfl, k, hq, hlen, hrow⟩
    · have lp := List.length_pos_iff.2 (dgs_ne a)
      obtain ⟨i, hi⟩ : ∃ i, i = (dgs a).length - 1 := ⟨_, rfl⟩
      obtain rfl : z = (i : Int) := by omega
      have hat := row_at (a := a) (k := k)
      rw [← hi] at hat
      obtain ⟨q1, q2⟩ := hrow.2.2 i _ hat
      have ilt : i < (dgs a ++ List.replicate k 48).length := (List.getElem?_eq_some_iff.1 hat).1
      have i2 : (i : Int) < (s.size : Int) := by rw [row_len] at ilt; have := LQ.out.1; omega
      by_cases h9 : a % 10 = 9
      · rw [h9] at q1
        have NX : Hid (MS w (wr.setCell ⟨w.heap.size, i, none⟩ (.int .u8 48)) q ((i : Int) - 1)) := Lib.hid ⟨hI.out.1.setCell (Nat.le_refl _) _, by
          have hb := hrow.set ilt (y := 48) (by decide)
          rcases Nat.lt_or_ge a 10 with c | c
          · obtain rfl : a = 9 := by omega
            have e1 : (dgs 9).length = 1 := by rw [dgs_small (by decide)]; rfl
            have e0 : i = 0 := by rw [hi, e1]
            subst e0
            rw [row_last] at hb
            refine .inr ⟨rfl, k, ?_, by omega, hb⟩
            have hp := Nat.pow_pos (n := k) (show 0 < 10 by decide)
            rw [hq, Nat.pow_succ]; omega
          · obtain ⟨e1, e2⟩ := row_nine (k := k) h9 c
            have eS : (dgs a ++ List.replicate k 48).set i 48 = dgs (a / 10) ++ List.replicate (k + 1) 48 := by
              rw [hi]; exact e1
            rw [eS] at hb
            refine .inl ⟨a / 10, k + 1, by omega, ?_, by omega, by omega, hb⟩
            have hp := Nat.pow_pos (n := k) (show 0 < 10 by decide)
            rw [hq, Nat.pow_succ, show a * 10 ^ k = (10 * (a / 10) + 9) * 10 ^ k by congr 1; omega, Nat.add_mul]
            rw [Nat.mul_comm 10 (a / 10), Nat.mul_assoc, Nat.mul_comm 10 (10 ^ k)]
            generalize a / 10 * (10 ^ k * 10) = t
            omega⟩
        clear hq hlen hrow hat hi ilt hz lp
        go_wp2_with fail
        go_roundw
        case rel => exact ⟨(i : Int) - 1, by go_num, by omega, by omega, NX⟩
        case measure => simp [intOf]
      · have hx : ((48 + a % 10 : Nat) : Int) ≤ 56 := by omega
        obtain ⟨x, hxe⟩ : ∃ x, x = 48 + a % 10 := ⟨_, rfl⟩
        obtain ⟨x1, hx1⟩ : ∃ x1, x1 = x + 1 := ⟨_, rfl⟩
        rw [← hxe] at q1 hx
        have g9 : ((x : Int) != 57) = true := bne_iff_ne.2 (by omega)
        have wx : IntKind.u8.wrap ((x : Int) + 1) = (x1 : Int) := by rw [IntKind.wrap_u8]; omega
        have hb := hrow.set ilt (y := x1) (by omega)
        obtain ⟨e1, e2⟩ := row_up (k := k) h9
        have eS : (dgs a ++ List.replicate k 48).set i x1 = dgs (a + 1) ++ List.replicate k 48 := by
          rw [hi, hx1, hxe]; exact e1
        rw [eS] at hb
        obtain ⟨t, ht, hcv⟩ := hb.text' (N := s.size) cap (by rw [List.length_append, List.length_replicate, e2]; have := LQ.out.1; omega)
        have hqn := dgs_nines k a a0
        rw [← hq] at hqn
        have E : Hid (bl t = dgs (q + 1) ∧ (0 : Int) = (Lib.nDigits (q + 1) : Int) - Lib.nDigits q) := Lib.hid (by
          refine ⟨by rw [ht, hqn.2], ?_⟩
          rw [← dgs_len, ← dgs_len, hqn.2, hlen, List.length_append, List.length_replicate, e2]; omega)
        have BB2 := Lib.hid (hI.out.1.setCell (p := ⟨w.heap.size, i, none⟩) (Nat.le_refl _) (.int .u8 (x1 : Int)))
        clear hq hlen hrow hat hi ilt hb ht hqn e1 e2 hxe hx1 hz lp
        go_wp2_with fail
        go_ret2
        exact ⟨⟨_, _, rfl, E.out.1, E.out.2⟩, BB2.out⟩
    · obtain ⟨t, ht, hcv⟩ := hrow.text' (N := s.size) cap (by rw [List.length_replicate, LQ.out.1, hlen])
      have tz : (t.size : Int) ≤ 18 := by rw [← bl_len, ht, List.length_replicate]; have := LQ.out.2; omega
      have E : Hid (bl (⟨#[49]⟩ ++ t) = dgs (q + 1) ∧ (1 : Int) = (Lib.nDigits (q + 1) : Int) - Lib.nDigits q) := Lib.hid (by
        have h1 : dgs (q + 1) = 49 :: List.replicate (k + 1) 48 := by rw [hq, dgs_ten]
        refine ⟨by rw [bl_append, ht, h1]; rfl, ?_⟩
        rw [← dgs_len, ← dgs_len, h1, hlen, List.length_cons, List.length_replicate]; omega)
      have BB2 := Lib.hid hI.out.1
      clear hq hlen hrow ht
      go_wp2_with fail
      go_ret2
      exact ⟨⟨_, _, rfl, E.out.1, E.out.2⟩, BB2.out⟩
end Go.Proofs.YtjkifbkehochoaaGreatDoor

namespace Go.Proofs.YtjkifbkehochoaaGreatDoor.R
open Go.RowKit Fl
end Go.Proofs.YtjkifbkehochoaaGreatDoor.R

namespace Go.Proofs.YtjkifbkehochoaaGreatDoor.R
open Go.RowKit Fl
end Go.Proofs.YtjkifbkehochoaaGreatDoor.R

namespace Go.Proofs.YtjkifbkehochoaaGreatDoor.R
open Go.RowKit Fl
theorem or_bit {q i : Nat} (h : 2 ^ (i + 1) ∣ q) : q ||| 2 ^ i = q + 2 ^ i := by
  obtain ⟨c, rfl⟩ := h
  have h1 := Nat.two_pow_add_eq_or_of_lt (show 2 ^ i < 2 ^ (i + 1) from Nat.pow_lt_pow_right (by decide) (Nat.lt_succ_self i)) c
  exact h1.symm
/-- what stands in the long division -/
structure RT (w wx : World) (vx vy : Value) (X Y j q x : Nat) : Prop where
  nx : NV wx vx x
  ny : NV wx vy Y
  l : Below w.heap.size w wx
  e : X = q * Y + x
  lt : x < 2 ^ j * Y
  d : 2 ^ j ∣ q
  q61 : q < 2305843009213693952
theorem RT.below {w wx wy : World} {vx vy : Value} {X Y j q x : Nat} (h : RT w wx vx vy X Y j q x) (k : Below wx.heap.size wx wy) : RT w wy vx vy X Y j q x :=
  ⟨h.nx.below k, h.ny.below k, h.l.trans (k.mono h.l.size), h.e, h.lt, h.d, h.q61⟩
theorem RT.skip {w wx : World} {vx vy : Value} {X Y j q x : Nat} (h : RT w wx vx vy X Y (j + 1) q x) (k : x < Y * 2 ^ j) : RT w wx vx vy X Y j q x :=
  ⟨h.nx, h.ny, h.l, h.e, by rw [Nat.mul_comm]; exact k, Nat.dvd_trans ⟨2, by rw [Nat.pow_succ]⟩ h.d, h.q61⟩
theorem RT.take {w wx wy : World} {vx vy v' : Value} {X Y j q x : Nat} (h : RT w wx vx vy X Y (j + 1) q x) (k : Y * 2 ^ j ≤ x) (hb : Below wx.heap.size wx wy) (hv : NV wy v' (x - Y * 2 ^ j)) (hq : X < 2305843009213693952 * Y) : RT w wy v' vy X Y j (q + 2 ^ j) (x - Y * 2 ^ j) := by
  have e : X = (q + 2 ^ j) * Y + (x - Y * 2 ^ j) := by
    have := h.e
    rw [Nat.add_mul, Nat.mul_comm (2 ^ j)]
    omega
  refine ⟨hv, h.ny.below hb, h.l.trans (hb.mono h.l.size), e, ?_, ?_, ?_⟩
  · have := h.lt
    rw [Nat.pow_succ, Nat.mul_comm _ 2, Nat.mul_assoc, Nat.mul_comm _ Y] at this
    rw [Nat.mul_comm _ Y]
    omega
  · exact Nat.dvd_add (Nat.dvd_trans ⟨2, by rw [Nat.pow_succ]⟩ h.d) (Nat.dvd_refl _)
  · have h1 : (q + 2 ^ j) * Y < 2305843009213693952 * Y := by omega
    exact Nat.lt_of_mul_lt_mul_right h1
end Go.Proofs.YtjkifbkehochoaaGreatDoor.R

namespace Go.Proofs.YtjkifbkehochoaaGreatDoor.R
open Go.RowKit Fl
theorem blen_half (x : Nat) (h : 0 < x) : blen x = blen (x / 2) + 1 := by
  by_cases h1 : x = 1
  · subst h1; decide
  · have h2 : 0 < x / 2 := by omega
    have a1 := blen_pos x h
    have a2 := blen_pos (x / 2) h2
    rw [Nat.log2_def x, if_pos (by omega)] at a1
    omega
end Go.Proofs.YtjkifbkehochoaaGreatDoor.R
