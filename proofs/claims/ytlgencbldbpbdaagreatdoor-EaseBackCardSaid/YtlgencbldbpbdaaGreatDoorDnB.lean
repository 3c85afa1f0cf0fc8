/- What is printed is read again. Plain laws. -/
import Derived.Test.YtlgencbldbpbdaaGreatDoorMgDkB
import Derived.Test.YtlgencbldbpbdaaGreatDoorMgDmI
namespace Go.Proofs.YtlgencbldbpbdaaGreatDoor
open Fl
theorem sh_parts {b : Nat} (h0 : 0 < b) (h1 : b < INF) : ∃ d m : Nat, shS b = (d, m) ∧ shD b = trimD (dgs d) ∧ shP b = placeF (V b) + Lib.nDigits d - m ∧ 0 < d ∧ d < 1000000000000000000 ∧ 1 ≤ m ∧ m ≤ 17 ∧ selS b (placeF (V b)) m = some d ∧ IsP (V b) (placeF (V b)) ∧ -359 ≤ placeF (V b) ∧ placeF (V b) ≤ 350 ∧ ∀ i, 1 ≤ i → i < m → selS b (placeF (V b)) i = none := by
  have v0 : 0 < V b := by have := V_lt h0; omega
  have vI : V b ≤ V INF := V_le (Nat.le_of_lt h1)
  have hp := place_is v0 vI
  obtain ⟨r1, r2⟩ := hp.range v0 vI
  obtain ⟨d, m, e, m1, m2, hs, hn⟩ := srch_ends h0 h1 hp 17 1 (by omega) (by omega) (by omega)
  have hq := q_range hp (n := m) m1
  have h17 := e17s m2
  have hp0 := Nat.pow_pos (n := m - 1) (show 0 < 10 by decide)
  have hd : 0 < d ∧ d < 1000000000000000000 := by
    rcases (sel_read hs).2 with c | c <;> omega
  have eS : shS b = (d, m) := e
  exact ⟨d, m, eS, by unfold shD; rw [if_neg (by omega), eS], by unfold shP; rw [if_neg (by omega), eS], hd.1, hd.2, m1, m2, hs, hp, r1, r2, hn⟩
theorem sh_reads {b : Nat} (h0 : 0 < b) (h1 : b < INF) : readF (shD b) (shP b) = b ∧ DG (shD b) ∧ shD b ≠ [] := by
  obtain ⟨d, m, -, e1, e2, d0, d1, m1, m2, hs, hp, r1, r2, -⟩ := sh_parts h0 h1
  have nd : Lib.nDigits d ≤ 18 := nd_le (by have : (10 : Nat) ^ 18 = 1000000000000000000 := by decide
                                            omega) (by decide)
  have nd1 : 0 < Lib.nDigits d := by rw [← dgs_len]; exact List.length_pos_iff.2 (dgs_ne d)
  rw [e1, e2]
  refine ⟨?_, fun x hx => dgs_dg d x (List.mem_of_mem_take hx), trim_ne d0⟩
  generalize placeF (V b) = p at *
  rw [read_dgs d0 (by omega) (by omega) (by omega), show p + (Lib.nDigits d : Int) - m - Lib.nDigits d = p - m by omega, show (-(p - (m : Int))).toNat = ((m : Int) - p).toNat by omega]
  have := (sel_read hs).1
  unfold rdS at this
  exact of_decide_eq_true this
/-- it does not go on with what stands ahead of it -/
def Ends (R : List Nat) : Prop := NDg R ∧ R.getD 0 0 ≠ 46 ∧ R.getD 0 0 ≠ 101 ∧ R.getD 0 0 ≠ 69
theorem ends_nil : Ends [] := ⟨ndg_nil, by decide, by decide, by decide⟩
def sgV (S : List Nat) : Nat := if S = [45] then 9223372036854775808 else 0
theorem read_48 : readF [48] 1 = 0 := by decide +kernel
theorem parse_D {b : Nat} {D S R : List Nat} {p : Int} (hS : Sgn S) (hR : Ends R) (hD : DG D) (h0 : D ≠ []) (hr : readF D p = b) (hl : D.length ≤ 18) (p1 : -400 ≤ p) (p2 : p ≤ 400) :
    pW (S ++ printD D p ++ R) = b + sgV S ∧ pN (S ++ printD D p ++ R) = S.length + (printD D p).length ∧ pErr (S ++ printD D p ++ R) = 0 := by
  obtain ⟨ne1, ne2⟩ := no_exp ⟨hR.2.2.1, hR.2.2.2⟩
  have lp : 0 < D.length := List.length_pos_iff.2 h0
  have Z : ∀ k, DG (List.replicate k 48) := fun k x hx => by have := List.eq_of_mem_replicate hx; omega
  by_cases c1 : (D.length : Int) ≤ p ∧ p ≤ 21
  · rw [d1 c1.1 c1.2]
    have hW : DG (D ++ List.replicate (p - D.length).toNat 48) := fun x hx => by
      rcases List.mem_append.1 hx with hx | hx
      · exact hD x hx
      · exact Z _ x hx
    obtain ⟨a, b2, c⟩ := shape_plain hS hW (fun e => h0 (List.append_eq_nil_iff.1 e).1) hR.1 hR.2.1
    refine ⟨?_, ?_, c⟩
    · rw [a, ne1, Int.add_zero, read_behind, List.length_append, List.length_replicate, show ((D.length + (p - D.length).toNat : Nat) : Int) = p by omega, hr]; rfl
    · rw [b2, ne2, Nat.add_zero]
  · by_cases c2 : 1 ≤ p ∧ p ≤ 21
    · rw [d2 (by omega) c2.1 c2.2, show S ++ (D.take p.toNat ++ [46] ++ D.drop p.toNat) ++ R = S ++ D.take p.toNat ++ 46 :: (D.drop p.toNat ++ R) by simp [List.append_assoc]]
      have lt : (D.take p.toNat).length = p.toNat := by rw [List.length_take]; omega
      have n0 : D.take p.toNat ≠ [] := fun e => by rw [e, List.length_nil] at lt; omega
      obtain ⟨a, b2, c⟩ := shape_point hS (fun x hx => hD x (List.mem_of_mem_take hx)) n0 (fun x hx => hD x (List.mem_of_mem_drop hx)) hR.1
      refine ⟨?_, ?_, c⟩
      · rw [a, ne1, Int.add_zero, List.take_append_drop, lt, Int.toNat_of_nonneg (by omega), hr]; rfl
      · rw [b2, ne2, lt]
        simp only [List.length_append, List.length_drop, List.length_cons, List.length_nil, lt]
        omega
    · by_cases c3 : -5 ≤ p ∧ p ≤ 0
      · rw [d3 (by omega) c3.1 c3.2, show S ++ ([48, 46] ++ List.replicate (-p).toNat 48 ++ D) ++ R = S ++ [48] ++ 46 :: ((List.replicate (-p).toNat 48 ++ D) ++ R) by simp [List.append_assoc]]
        have hF : DG (List.replicate (-p).toNat 48 ++ D) := fun x hx => by
          rcases List.mem_append.1 hx with hx | hx
          · exact Z _ x hx
          · exact hD x hx
        obtain ⟨a, b2, c⟩ := shape_point hS (W := [48]) (fun x hx => by rw [List.mem_singleton.1 hx]; decide) (by decide) hF hR.1
        have e1 : [48] ++ (List.replicate (-p).toNat 48 ++ D) = List.replicate ((-p).toNat + 1) 48 ++ D := by rw [List.replicate_succ]; rfl
        refine ⟨?_, ?_, c⟩
        · have := read_ahead D ((-p).toNat + 1) p
          rw [show p + (((-p).toNat + 1 : Nat) : Int) = 1 by omega] at this
          rw [a, ne1, e1, show (([48] : List Nat).length : Int) + 0 = 1 from rfl, this, hr]; rfl
        · rw [b2, ne2]
          simp only [List.length_append, List.length_replicate, List.length_cons, List.length_nil]
          omega
      · have key : ∀ (s : Nat) (k : Nat), (s = 43 ∨ s = 45) → k ≤ 1000 → ((1 : Int) + (if s = 45 then -(k : Int) else (k : Int)) = p) →
            pW (S ++ (D.take 1 ++ (if 1 < D.length then 46 :: D.drop 1 else []) ++ ([101, s] ++ dgs k)) ++ R) = b + sgV S ∧ pN (S ++ (D.take 1 ++ (if 1 < D.length then 46 :: D.drop 1 else []) ++ ([101, s] ++ dgs k)) ++ R) = S.length + (D.take 1 ++ (if 1 < D.length then 46 :: D.drop 1 else []) ++ ([101, s] ++ dgs k)).length ∧ pErr (S ++ (D.take 1 ++ (if 1 < D.length then 46 :: D.drop 1 else []) ++ ([101, s] ++ dgs k)) ++ R) = 0 := by
          intro s k hs hk he
          obtain ⟨x1, x2⟩ := an_exp (R := R) hs (dgs_dg k) (dgs_ne k) hR.1 (by rw [dgs_val]; unfold FAR; omega)
          rw [dgs_val] at x1
          have lt : (D.take 1).length = 1 := by rw [List.length_take]; omega
          have n0 : D.take 1 ≠ [] := fun e => by rw [e] at lt; cases lt
          have nd : NDg (101 :: s :: (dgs k ++ R)) := ndg_cons (by omega)
          by_cases c : 1 < D.length
          · rw [if_pos c, show S ++ (D.take 1 ++ 46 :: D.drop 1 ++ ([101, s] ++ dgs k)) ++ R = S ++ D.take 1 ++ 46 :: (D.drop 1 ++ (101 :: s :: (dgs k ++ R))) by simp [List.append_assoc]]
            obtain ⟨a, b2, c⟩ := shape_point hS (fun x hx => hD x (List.mem_of_mem_take hx)) n0 (fun x hx => hD x (List.mem_of_mem_drop hx)) nd
            refine ⟨?_, ?_, c⟩
            · rw [a, x1, List.take_append_drop, lt, show ((1 : Nat) : Int) = 1 from rfl, he, hr]; rfl
            · rw [b2, x2, lt]
              simp only [List.length_append, List.length_drop, List.length_cons, List.length_nil, lt]
              omega
          · rw [if_neg c, show S ++ (D.take 1 ++ [] ++ ([101, s] ++ dgs k)) ++ R = S ++ D.take 1 ++ (101 :: s :: (dgs k ++ R)) by simp [List.append_assoc]]
            obtain ⟨a, b2, c⟩ := shape_plain hS (fun x hx => hD x (List.mem_of_mem_take hx)) n0 nd (by show (101 : Nat) ≠ 46; decide)
            have e1 : D.take 1 = D := List.take_of_length_le (by omega)
            refine ⟨?_, ?_, c⟩
            · rw [a, x1, lt, show ((1 : Nat) : Int) = 1 from rfl, he, e1, hr]; rfl
            · rw [b2, x2, lt]
              simp only [List.length_append, List.length_cons, List.length_nil, lt]
              omega
        by_cases c4 : p < -5
        · rw [d4 c4]
          exact key 45 (1 - p).toNat (.inr rfl) (by omega) (by rw [if_pos rfl]; omega)
        · rw [d5 (show 21 < p by omega)]
          exact key 43 (p - 1).toNat (.inl rfl) (by omega) (by rw [if_neg (by decide)]; omega)
/-- THE LAYER's THEOREM, in plain words -/
theorem parse_print {x : Nat} (hx : U x) (hf : rg x < INF) {R : List Nat} (hR : Ends R) : pW (printF x ++ R) = x ∧ pN (printF x ++ R) = (printF x).length ∧ pErr (printF x ++ R) = 0 := by
  obtain ⟨S, hSe⟩ : ∃ S : List Nat, S = if sg x = true then [45] else [] := ⟨_, rfl⟩
  have hS : Sgn S := by
    rw [hSe]
    cases sg x
    · exact .inl rfl
    · exact .inr rfl
  have ep : printF x = S ++ bodyF (rg x) := by unfold printF; rw [if_neg (by omega), ← hSe]
  have ex : x = rg x + sgV S := by
    have := hx.lt
    rw [hSe]
    unfold sgV sg rg
    by_cases c : 9223372036854775808 ≤ x
    · rw [decide_eq_true c, if_pos rfl, if_pos rfl]; omega
    · rw [decide_eq_false c]; first | (rw [if_neg (by decide), if_neg (by decide)]; omega) | (rw [if_neg (by decide)]; omega) | (simp; omega)
  rw [ep, List.length_append]
  have key : pW (S ++ bodyF (rg x) ++ R) = rg x + sgV S ∧ pN (S ++ bodyF (rg x) ++ R) = S.length + (bodyF (rg x)).length ∧ pErr (S ++ bodyF (rg x) ++ R) = 0 := by
    unfold bodyF
    by_cases c0 : rg x = 0
    · rw [if_pos c0, c0]
      obtain ⟨ne1, ne2⟩ := no_exp ⟨hR.2.2.1, hR.2.2.2⟩
      obtain ⟨a, b2, c⟩ := shape_plain hS (W := [48]) (fun x hx => by rw [List.mem_singleton.1 hx]; decide) (by decide) hR.1 hR.2.1
      exact ⟨by rw [a, ne1, show (([48] : List Nat).length : Int) + 0 = 1 from rfl, read_48]; rfl, by rw [b2, ne2]; rfl, c⟩
    · rw [if_neg c0, if_neg (by omega)]
      obtain ⟨r1, r2, r3⟩ := sh_reads (b := rg x) (by omega) hf
      obtain ⟨l1, l2, p1, p2⟩ := sh_range (b := rg x) (by omega) hf
      exact parse_D hS hR r2 r3 r1 l2 p1 p2
  rw [← ex] at key
  exact key
end Go.Proofs.YtlgencbldbpbdaaGreatDoor
