/- Digits at a point: noughts ahead and behind change nothing; as what a row of digits is read; a number's own digits. Plain laws. Reading keeps the order of the digits. Plain laws. -/
import Derived.Test.YtlgencbldbpbdaaGreatDoorMgFl
import Derived.Test.YtlgencbldbpbdaaGreatDoorMgDhE
import Derived.Lib.ItoaNum
namespace Go.Proofs.YtlgencbldbpbdaaGreatDoor
open Fl
theorem getD_app_left {l m : List Nat} {k : Nat} (h : k < l.length) : (l ++ m).getD k 0 = l.getD k 0 := by
  rw [List.getD, List.getD, List.getElem?_append_left h]
theorem te_behind (l : List Nat) (n f : Nat) (hf : f ≤ l.length) : ∀ k, k ≤ n → te (l ++ List.replicate n 48) f (l.length + k) = te l f l.length
  | 0, _ => by
    have h : ∀ j, j ≤ l.length → te (l ++ List.replicate n 48) f j = te l f j := fun j => by
      induction j with
      | zero => intro _; rfl
      | succ j ih =>
        intro hj
        rw [te, te, getD_app_left hj, ih (by omega)]
    exact h _ (Nat.le_refl _)
  | k + 1, hk => by
    have e : (l ++ List.replicate n 48).getD (l.length + k) 0 = 48 := by
      rw [List.getD, List.getElem?_append_right (by omega), show l.length + k - l.length = k by omega, List.getElem?_replicate, if_pos (by omega)]
      rfl
    rw [← Nat.add_assoc, te, if_pos ⟨by omega, e⟩]
    exact te_behind l n f hf k (by omega)
theorem lead_rep : ∀ n, lead (List.replicate n 48) = n
  | 0 => rfl
  | n + 1 => by rw [List.replicate_succ, lead, if_pos rfl, lead_rep n]
theorem lead_behind (n : Nat) : ∀ l : List Nat, lead l < l.length → lead (l ++ List.replicate n 48) = lead l
  | [], h => absurd h (Nat.lt_irrefl _)
  | x :: l, h => by
    rw [List.cons_append, lead, lead]
    by_cases hx : x = 48
    · rw [if_pos hx, if_pos hx, lead_behind n l (by rw [lead, if_pos hx, List.length_cons] at h; omega)]
    · rw [if_neg hx, if_neg hx]
theorem lead_all (n : Nat) : ∀ l : List Nat, lead l = l.length → lead (l ++ List.replicate n 48) = (l ++ List.replicate n 48).length
  | [], _ => by rw [List.nil_append, lead_rep, List.length_replicate]
  | x :: l, h => by
    rw [lead] at h
    by_cases hx : x = 48
    · rw [if_pos hx, List.length_cons] at h
      rw [List.cons_append, lead, if_pos hx, lead_all n l (by omega), List.length_cons]
    · rw [if_neg hx, List.length_cons] at h; omega
theorem strip_behind {l : List Nat} (n : Nat) (h : lead l < l.length) : stripD (l ++ List.replicate n 48) = stripD l := by
  have h2 := te_behind l n (lead l) (Nat.le_of_lt h) n (Nat.le_refl _)
  unfold stripD
  rw [lead_behind n l h, List.length_append, List.length_replicate, h2, List.take_append_of_le_length (te_le _ _ _)]
/-- noughts behind change nothing -/
theorem read_behind (l : List Nat) (n : Nat) (p : Int) : readF (l ++ List.replicate n 48) p = readF l p := by
  rcases Nat.lt_or_ge (lead l) l.length with h | h
  · unfold readF
    rw [strip_behind n h, lead_behind n l h]
  · have h1 : lead l = l.length := Nat.le_antisymm (lead_le l) h
    unfold readF
    rw [if_pos (.inl (strip_nil (lead_all n l h1))), if_pos (.inl (strip_nil h1))]
theorem lead_ahead (l : List Nat) : ∀ n, lead (List.replicate n 48 ++ l) = n + lead l
  | 0 => by rw [List.replicate_zero, List.nil_append, Nat.zero_add]
  | n + 1 => by rw [List.replicate_succ, List.cons_append, lead, if_pos rfl, lead_ahead l n]; omega
theorem drop_ahead (l : List Nat) (n k : Nat) : (List.replicate n 48 ++ l).drop (n + k) = l.drop k := by
  rw [List.drop_append, List.drop_eq_nil_of_le (by rw [List.length_replicate]; omega), List.nil_append, List.length_replicate, Nat.add_sub_cancel_left]
theorem strip_ahead (l : List Nat) (n : Nat) : stripD (List.replicate n 48 ++ l) = stripD l := by
  rw [strip_two, strip_two l, lead_ahead, drop_ahead, List.length_append, List.length_replicate, show n + l.length - (n + lead l) = l.length - lead l by omega]
/-- noughts ahead move the point alone -/
theorem read_ahead (l : List Nat) (n : Nat) (p : Int) : readF (List.replicate n 48 ++ l) (p + n) = readF l p := by
  unfold readF
  rw [strip_ahead, lead_ahead, show p + (n : Int) - ((n + lead l : Nat) : Int) = p - lead l by omega]
  by_cases hs : stripD l = []
  · rw [if_pos (.inl hs), if_pos (.inl hs)]
  · by_cases h1 : p < -1099511627776
    · rw [if_pos (c := stripD l = [] ∨ p < -1099511627776) (.inr h1)]
      by_cases h2 : stripD l = [] ∨ p + (n : Int) < -1099511627776
      · rw [if_pos h2]
      · rw [if_neg h2, if_neg (by omega), if_pos (by omega)]
    · rw [if_neg (c := stripD l = [] ∨ p < -1099511627776) (fun e => e.elim hs h1), if_neg (c := stripD l = [] ∨ p + (n : Int) < -1099511627776) (fun e => e.elim hs (by omega))]
theorem te_rep (l : List Nat) (f : Nat) : ∀ k, k ≤ l.length → l.take k = l.take (te l f k) ++ List.replicate (k - te l f k) 48
  | 0, _ => by rw [te, Nat.sub_self, List.replicate_zero, List.append_nil]
  | k + 1, hk => by
    have h0 := te_le l f k
    rw [te]
    by_cases h : f < k + 1 ∧ l.getD k 0 = 48
    · rw [if_pos h]
      have e : l[k]? = some 48 := by
        have := h.2
        rw [List.getD, List.getElem?_eq_getElem hk] at this
        rw [List.getElem?_eq_getElem hk]
        exact congrArg some this
      rw [List.take_add_one, e, te_rep l f k (by omega), List.append_assoc, show k + 1 - te l f k = (k - te l f k) + 1 by omega, List.replicate_succ']
      rfl
    · rw [if_neg h, Nat.sub_self, List.replicate_zero, List.append_nil]
theorem trim_rep (l : List Nat) (f : Nat) : l = l.take (te l f l.length) ++ List.replicate (l.length - te l f l.length) 48 := by
  have h := te_rep l f l.length (Nat.le_refl _)
  rwa [List.take_length] at h
/-- a row without the noughts behind -/
def trimD (l : List Nat) : List Nat := l.take (te l 0 l.length)
theorem read_trim (l : List Nat) (p : Int) : readF (trimD l) p = readF l p := by
  conv => rhs; rw [trim_rep l 0]
  exact (read_behind _ _ _).symm
theorem dval_rep (l : List Nat) : ∀ n, dval (l ++ List.replicate n 48) = dval l * 10 ^ n
  | 0 => by rw [List.replicate_zero, List.append_nil, Nat.pow_zero, Nat.mul_one]
  | n + 1 => by rw [List.replicate_succ', ← List.append_assoc, dval_snoc, dval_rep l n, Nat.pow_succ, ← Nat.mul_assoc]; omega
/-- a quotient by powers of ten, written with more noughts -/
theorem ratio_shift (X z : Nat) (e : Int) : rungM (X * 10 ^ e.toNat * 2 ^ K) (10 ^ (-e).toNat) = rungM (X * 10 ^ z * 10 ^ (e - z).toNat * 2 ^ K) (10 ^ (-(e - z)).toNat) := by
  generalize 2 ^ K = T
  have P0 : ∀ k : Nat, 0 < 10 ^ k := fun k => Nat.pow_pos (by decide)
  rcases Int.le_total (z : Int) e with h | h
  · rw [show (-e).toNat = 0 by omega, show (-(e - z)).toNat = 0 by omega, Nat.mul_assoc X (10 ^ z), ← Nat.pow_add, show z + (e - z).toNat = e.toNat by omega]
  · rcases Int.le_total 0 e with h0 | h0
    · rw [show (-e).toNat = 0 by omega, show (e - z).toNat = 0 by omega, ← rungM_scale _ (10 ^ 0) (10 ^ (-(e - z)).toNat) (P0 _), Nat.pow_zero, Nat.one_mul, Nat.mul_one]
      congr 1
      rw [Nat.mul_right_comm, Nat.mul_assoc X, ← Nat.pow_add, show e.toNat + (-(e - z)).toNat = z by omega]
    · rw [show e.toNat = 0 by omega, show (e - z).toNat = 0 by omega, ← rungM_scale _ (10 ^ (-e).toNat) (10 ^ z) (P0 _), ← Nat.pow_add, show (-e).toNat + z = (-(e - z)).toNat by omega, Nat.pow_zero, Nat.mul_one, Nat.mul_one]
      congr 1
      exact Nat.mul_right_comm _ _ _
/-- as what a short row is read -/
theorem read_num {l : List Nat} {p : Int} (hl : l.length ≤ 800) (h0 : l.getD 0 0 ≠ 48) (hn : l ≠ []) (h1 : -400 ≤ p) (h2 : p ≤ 400) :
    readF l p = rungM (dval l * 10 ^ (p - l.length).toNat * 2 ^ K) (10 ^ (-(p - l.length)).toNat) := by
  have hle : lead l = 0 := by
    cases l with
    | nil => exact absurd rfl hn
    | cons x l =>
      have h0 : x ≠ 48 := h0
      rw [lead, if_neg h0]
  have hpos : 0 < l.length := List.length_pos_iff.2 hn
  have hst : stripD l = trimD l := by unfold stripD trimD; rw [hle, List.drop_zero]
  have hne : stripD l ≠ [] := by
    obtain ⟨r, hr⟩ := strip_some (l := l) (by omega)
    rw [hr]; exact List.cons_ne_nil _ _
  have hlen : (trimD l).length ≤ 800 := by
    unfold trimD
    rw [List.length_take]
    omega
  unfold readF
  rw [if_neg (fun e => e.elim hne (by omega)), hle, if_neg (by omega), if_neg (by omega), hst]
  have hc : cutD (trimD l) = trimD l := by unfold cutD; rw [if_neg (by omega)]
  rw [hc]
  have e := trim_rep l 0
  obtain ⟨z, hz⟩ : ∃ z, z = l.length - te l 0 l.length := ⟨_, rfl⟩
  rw [← hz] at e
  have e2 : l = trimD l ++ List.replicate z 48 := e
  have e3 : dval l = dval (trimD l) * 10 ^ z := by rw [← dval_rep, ← e2]
  have e4 : l.length = (trimD l).length + z := by
    have := congrArg List.length e2
    rw [List.length_append, List.length_replicate] at this
    exact this
  have h := ratio_shift (dval (trimD l)) z (p - (trimD l).length)
  rw [e3, e4]
  unfold numF
  rw [show p - ((0 : Nat) : Int) = p by omega, show p - (((trimD l).length + z : Nat) : Int) = p - (trimD l).length - z by omega]
  exact h
/-- a number's digits -/
def dgs (d : Nat) : List Nat := (Lib.decDigits d).map UInt8.toNat
theorem dgs_small {d : Nat} (h : d < 10) : dgs d = [48 + d] := by
  unfold dgs
  rw [Lib.decDigits_one h, List.map_singleton, UInt8.toNat_ofNat', Nat.mod_eq_of_lt (by omega)]
theorem dgs_big {d : Nat} (h : ¬ d < 10) : dgs d = dgs (d / 10) ++ [48 + d % 10] := by
  unfold dgs
  rw [Lib.decDigits, dif_neg h, List.map_append, List.map_singleton, UInt8.toNat_ofNat', Nat.mod_eq_of_lt (by omega)]
theorem dgs_val (d : Nat) : dval (dgs d) = d := by
  induction d using Nat.strongRecOn with
  | ind d ih =>
    by_cases h : d < 10
    · rw [dgs_small h]; show 0 * 10 + (48 + d - 48) = d; omega
    · rw [dgs_big h, dval_snoc, ih (d / 10) (by omega)]; omega
theorem dgs_dg (d : Nat) : DG (dgs d) := by
  induction d using Nat.strongRecOn with
  | ind d ih =>
    by_cases h : d < 10
    · rw [dgs_small h]
      intro x hx
      rcases List.mem_singleton.1 hx with rfl
      omega
    · rw [dgs_big h]
      intro x hx
      rcases List.mem_append.1 hx with hx | hx
      · exact ih (d / 10) (by omega) x hx
      · rcases List.mem_singleton.1 hx with rfl
        omega
theorem dgs_len (d : Nat) : (dgs d).length = Lib.nDigits d := by unfold dgs; rw [List.length_map, Lib.decDigits_length]
theorem dgs_ne (d : Nat) : dgs d ≠ [] := by
  intro h
  have := dgs_len d
  rw [h] at this
  have := Lib.nDigits_pos d
  simp at *
  omega
theorem dgs_head (d : Nat) (h : 0 < d) : (dgs d).getD 0 0 ≠ 48 := by
  induction d using Nat.strongRecOn with
  | ind d ih =>
    by_cases h1 : d < 10
    · rw [dgs_small h1]; show 48 + d ≠ 48; omega
    · rw [dgs_big h1, getD_app_left (List.length_pos_iff.2 (dgs_ne _))]
      exact ih (d / 10) (by omega) (by omega)
/-- a number's digits, read at a point -/
theorem read_dgs {d : Nat} {p : Int} (h : 0 < d) (hl : Lib.nDigits d ≤ 800) (h1 : -400 ≤ p) (h2 : p ≤ 400) :
    readF (trimD (dgs d)) p = rungM (d * 10 ^ (p - Lib.nDigits d).toNat * 2 ^ K) (10 ^ (-(p - Lib.nDigits d)).toNat) := by
  rw [read_trim, read_num (by rw [dgs_len]; exact hl) (dgs_head d h) (dgs_ne d) h1 h2, dgs_val, dgs_len]
end Go.Proofs.YtlgencbldbpbdaaGreatDoor

namespace Go.Proofs.YtlgencbldbpbdaaGreatDoor
open Fl
theorem nd_le {x k : Nat} (h : x < 10 ^ k) (hk : 0 < k) : Lib.nDigits x ≤ k := by
  rcases Nat.lt_or_ge k (Lib.nDigits x) with c | c
  · exfalso
    rcases Nat.eq_zero_or_pos x with h0 | h0
    · subst h0
      rw [Lib.nDigits_small (by decide)] at c; omega
    · have := Lib.nDigits_pos x
      have h2 := Lib.lt_pow_nDigits x
      have h3 : 10 ^ (Lib.nDigits x - 1) ≤ x := by
        rcases Nat.lt_or_ge x (10 ^ (Lib.nDigits x - 1)) with d | d
        · exfalso
          obtain ⟨m, hm⟩ : ∃ m, Lib.nDigits x = m + 1 := ⟨Lib.nDigits x - 1, by omega⟩
          rw [hm, Nat.add_sub_cancel] at d
          obtain ⟨q, hq1, hq2⟩ : ∃ q, 10 ^ q ≤ x ∧ x < 10 ^ (q + 1) := by
            clear h h2 c hm d this hk
            induction x using Nat.strongRecOn with
            | ind x ih =>
              by_cases hx : x < 10
              · exact ⟨0, by rw [Nat.pow_zero]; exact h0, by simpa using hx⟩
              · obtain ⟨q, a, b⟩ := ih (x / 10) (by omega) (by omega)
                exact ⟨q + 1, by rw [Nat.pow_succ]; omega, by rw [Nat.pow_succ]; omega⟩
          have h5 := Lib.nDigits_unique q x hq1 hq2
          have : q = m := by omega
          subst this
          omega
        · exact d
      have h4 := Nat.pow_le_pow_right (show 0 < 10 by decide) (show k ≤ Lib.nDigits x - 1 by omega)
      omega
  · exact c
end Go.Proofs.YtlgencbldbpbdaaGreatDoor
