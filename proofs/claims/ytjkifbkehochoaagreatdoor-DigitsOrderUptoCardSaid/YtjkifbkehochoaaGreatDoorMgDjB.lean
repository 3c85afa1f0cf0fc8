/- Digits at a point: noughts ahead and behind change nothing; as what a row of digits is read; a number's own digits. Plain laws. Reading keeps the order of the digits. Plain laws. Plain laws: what rounding loses is a number. No program in sight. Plain laws of rounding bit by bit. -/
import Derived.Test.YtjkifbkehochoaaGreatDoorMgFlB
import Derived.Test.YtjkifbkehochoaaGreatDoorMgDhE
import Derived.Lib.ItoaNum
namespace Go.Proofs.YtjkifbkehochoaaGreatDoor
open Fl

theorem getD_app_left {l m : List Nat} {k : Nat} (h : k < l.length) : (l ++ m).getD k 0 = l.getD k 0 := by
  rw [List.getD, List.getD, List.getElem?_append_left h]
theorem te_behind (l : List Nat) (n f : Nat) (hf : f ≤ l.length) : ∀ k, k ≤ n → te (l ++ List.replicate n 48) f (l.length + k) = te l f l.length
  | 0, _ => by
    have h : ∀ j, j ≤ l.length → te (l ++ List.replicate n 48) f j = te l f j := fun j => by
      induction j with
      | zero => intro _; rfl
      | succ j ih =>
        intro hj
        rw [te, te, getD_app_left hj, ih (by omega)]
    exact h _ (Nat.le_refl _)
  | k + 1, hk => by
    have e : (l ++ List.replicate n 48).getD (l.length + k) 0 = 48 := by
      rw [List.getD, List.getElem?_append_right (by omega), show l.length + k - l.length = k by omega, List.getElem?_replicate, if_pos (by omega)]
      rfl
    rw [← Nat.add_assoc, te, if_pos ⟨by omega, e⟩]
    exact te_behind l n f hf k (by omega)
theorem lead_rep : ∀ n, lead (List.replicate n 48) = n
  | 0 => rfl
  | n + 1 => by rw [List.replicate_succ, lead, if_pos rfl, lead_rep n]
theorem lead_behind (n : Nat) : ∀ l : List Nat, lead l < l.length → lead (l ++ List.replicate n 48) = lead l
  | [], h => absurd h (Nat.lt_irrefl _)
  | x :: l, h => by
    rw [List.cons_append, lead, lead]
    by_cases hx : x = 48
    · rw [if_pos hx, if_pos hx, lead_behind n l (by rw [lead, if_pos hx, List.length_cons] at h; omega)]
    · rw [if_neg hx, if_neg hx]
theorem lead_all (n : Nat) : ∀ l : List Nat, lead l = l.length → lead (l ++ List.replicate n 48) = (l ++ List.replicate n 48).length
  | [], _ => by rw [List.nil_append, lead_rep, List.length_replicate]
  | x :: l, h => by
    rw [lead] at h
    by_cases hx : x = 48
    · rw [if_pos hx, List.length_cons] at h
      rw [List.cons_append, lead, if_pos hx, lead_all n l (by omega), List.length_cons]
    · rw [if_neg hx, List.length_cons] at h; omega
theorem strip_behind {l : List Nat} (n : Nat) (h : lead l < l.length) : stripD (l ++ List.replicate n 48) = stripD l := by
  have h2 := te_behind l n (lead l) (Nat.le_of_lt h) n (Nat.le_refl _)
  unfold stripD
  rw [lead_behind n l h, List.length_append, List.length_replicate, h2, List.take_append_of_le_length (te_le _ _ _)]
/-- noughts behind change nothing -/
theorem read_behind (l : List Nat) (n : Nat) (p : Int) : readF (l ++ List.replicate n 48) p = readF l p := by
  rcases Nat.lt_or_ge (lead l) l.length with h | h
  · unfold readF
    rw [strip_behind n h, lead_behind n l h]
  · have h1 : lead l = l.length := Nat.le_antisymm (lead_le l) h
    unfold readF
    rw [if_pos (.inl (strip_nil (lead_all n l h1))), if_pos (.inl (strip_nil h1))]
theorem lead_ahead (l : List Nat) : ∀ n, lead (List.replicate n 48 ++ l) = n + lead l
  | 0 => by rw [List.replicate_zero, List.nil_append, Nat.zero_add]
  | n + 1 => by rw [List.replicate_succ, List.cons_append, lead, if_pos rfl, lead_ahead l n]; omega
theorem drop_ahead (l : List Nat) (n k : Nat) : (List.replicate n 48 ++ l).drop (n + k) = l.drop k := by
  rw [List.drop_append, List.drop_eq_nil_of_le (by rw [List.length_replicate]; omega), List.nil_append, List.length_replicate, Nat.add_sub_cancel_left]
theorem strip_ahead (l : List Nat) (n : Nat) : stripD (List.replicate n 48 ++ l) = stripD l := by
  rw [strip_two, strip_two l, lead_ahead, drop_ahead, List.length_append, List.length_replicate, show n + l.length - (n + lead l) = l.length - lead l by omega]
/-- noughts ahead move the point alone -/
theorem read_ahead (l : List Nat) (n : Nat) (p : Int) : readF (List.replicate n 48 ++ l) (p + n) = readF l p := by
  unfold readF
  rw [strip_ahead, lead_ahead, show p + (n : Int) - ((n + lead l : Nat) : Int) = p - lead l by omega]
  by_cases hs : stripD l = []
  · rw [if_pos (.inl hs), if_pos (.inl hs)]
  · by_cases h1 : p < -1099511627776
    · rw [if_pos (c := stripD l = [] ∨ p < -1099511627776) (.inr h1)]
      by_cases h2 : stripD l = [] ∨ p + (n : Int) < -1099511627776
      · rw [if_pos h2]
      · rw [if_neg h2, if_neg (by omega), if_pos (by omega)]
    · rw [if_neg (c := stripD l = [] ∨ p < -1099511627776) (fun e => e.elim hs h1), if_neg (c := stripD l = [] ∨ p + (n : Int) < -1099511627776) (fun e => e.elim hs (by omega))]
theorem te_rep (l : List Nat) (f : Nat) : ∀ k, k ≤ l.length → l.take k = l.take (te l f k) ++ List.replicate (k - te l f k) 48
  | 0, _ => by rw [te, Nat.sub_self, List.replicate_zero, List.append_nil]
  | k + 1, hk => by
    have h0 := te_le l f k
    rw [te]
    by_cases h : f < k + 1 ∧ l.getD k 0 = 48
    · rw [if_pos h]
      have e : l[k]? = some 48 := by
        have := h.2
        rw [List.getD, List.getElem?_eq_getElem hk] at this
        rw [List.getElem?_eq_getElem hk]
        exact congrArg some this
      rw [List.take_add_one, e, te_rep l f k (by omega), List.append_assoc, show k + 1 - te l f k = (k - te l f k) + 1 by omega, List.replicate_succ']
      rfl
    · rw [if_neg h, Nat.sub_self, List.replicate_zero, List.append_nil]
theorem trim_rep (l : List Nat) (f : Nat) : l = l.take (te l f l.length) ++ List.replicate (l.length - te l f l.length) 48 := by
  have h := te_rep l f l.length (Nat.le_refl _)
  rwa [List.take_length] at h
/-- a row without the noughts behind -/
def trimD (l : List Nat) : List Nat := l.take (te l 0 l.length)
theorem read_trim (l : List Nat) (p : Int) : readF (trimD l) p = readF l p := by
  conv => rhs; rw [trim_rep l 0]
  exact (read_behind _ _ _).symm
theorem dval_rep (l : List Nat) : ∀ n, dval (l ++ List.replicate n 48) = dval l * 10 ^ n
  | 0 => by rw [List.replicate_zero, List.append_nil, Nat.pow_zero, Nat.mul_one]
  | n + 1 => by rw [List.replicate_succ', ← List.append_assoc, dval_snoc, dval_rep l n, Nat.pow_succ, ← Nat.mul_assoc]; omega
/-- a quotient by powers of ten, written with more noughts -/
theorem ratio_shift (X z : Nat) (e : Int) : rungM (X * 10 ^ e.toNat * 2 ^ K) (10 ^ (-e).toNat) = rungM (X * 10 ^ z * 10 ^ (e - z).toNat * 2 ^ K) (10 ^ (-(e - z)).toNat) := by
  generalize 2 ^ K = T
  have P0 : ∀ k : Nat, 0 < 10 ^ k := fun k => Nat.pow_pos (by decide)
  rcases Int.le_total (z : Int) e with h | h
  · rw [show (-e).toNat = 0 by omega, show (-(e - z)).toNat = 0 by omega, Nat.mul_assoc X (10 ^ z), ← Nat.pow_add, show z + (e - z).toNat = e.toNat by omega]
  · rcases Int.le_total 0 e with h0 | h0
    · rw [show (-e).toNat = 0 by omega, show (e - z).toNat = 0 by omega, ← rungM_scale _ (10 ^ 0) (10 ^ (-(e - z)).toNat) (P0 _), Nat.pow_zero, Nat.one_mul, Nat.mul_one]
      congr 1
      rw [Nat.mul_right_comm, Nat.mul_assoc X, ← Nat.pow_add, show e.toNat + (-(e - z)).toNat = z by omega]
    · rw [show e.toNat = 0 by omega, show (e - z).toNat = 0 by omega, ← rungM_scale _ (10 ^ (-e).toNat) (10 ^ z) (P0 _), ← Nat.pow_add, show (-e).toNat + z = (-(e - z)).toNat by omega, Nat.pow_zero, Nat.mul_one, Nat.mul_one]
      congr 1
      exact Nat.mul_right_comm _ _ _
/-- as what a short row is read -/
theorem read_num {l : List Nat} {p : Int} (hl : l.length ≤ 800) (h0 : l.getD 0 0 ≠ 48) (hn : l ≠ []) (h1 : -400 ≤ p) (h2 : p ≤ 400) :
    readF l p = rungM (dval l * 10 ^ (p - l.length).toNat * 2 ^ K) (10 ^ (-(p - l.length)).toNat) := by
  have hle : lead l = 0 := by
    cases l with
    | nil => exact absurd rfl hn
    | cons x l =>
      have h0 : x ≠ 48 := h0
      rw [lead, if_neg h0]
  have hpos : 0 < l.length := List.length_pos_iff.2 hn
  have hst : stripD l = trimD l := by unfold stripD trimD; rw [hle, List.drop_zero]
  have hne : stripD l ≠ [] := by
    obtain ⟨r, hr⟩ := strip_some (l := l) (by omega)
    rw [hr]; exact List.cons_ne_nil _ _
  have hlen : (trimD l).length ≤ 800 := by
    unfold trimD
    rw [List.length_take]
    omega
  unfold readF
  rw [if_neg (fun e => e.elim hne (by omega)), hle, if_neg (by omega), if_neg (by omega), hst]
  have hc : cutD (trimD l) = trimD l := by unfold cutD; rw [if_neg (by omega)]
  rw [hc]
  have e := trim_rep l 0
  obtain ⟨z, hz⟩ : ∃ z, z = l.length - te l 0 l.length := ⟨_, rfl⟩
  rw [← hz] at e
  have e2 : l = trimD l ++ List.replicate z 48 := e
  have e3 : dval l = dval (trimD l) * 10 ^ z := by rw [← dval_rep, ← e2]
  have e4 : l.length = (trimD l).length + z := by
    have := congrArg List.length e2
    rw [List.length_append, List.length_replicate] at this
    exact this
  have h := ratio_shift (dval (trimD l)) z (p - (trimD l).length)
  rw [e3, e4]
  unfold numF
  rw [show p - ((0 : Nat) : Int) = p by omega, show p - (((trimD l).length + z : Nat) : Int) = p - (trimD l).length - z by omega]
  exact h
/-- a number's digits -/
def dgs (d : Nat) : List Nat := (Lib.decDigits d).map UInt8.toNat
theorem dgs_small {d : Nat} (h : d < 10) : dgs d = [48 + d] := by
  unfold dgs
  rw [Lib.decDigits_one h, List.map_singleton, UInt8.toNat_ofNat', Nat.mod_eq_of_lt (by omega)]
theorem dgs_big {d : Nat} (h : ¬ d < 10) : dgs d = dgs (d / 10) ++ [48 + d % 10] := by
  unfold dgs
  rw [Lib.decDigits, dif_neg h, List.map_append, List.map_singleton, UInt8.toNat_ofNat', Nat.mod_eq_of_lt (by omega)]
theorem dgs_val (d : Nat) : dval (dgs d) = d := by
  induction d using Nat.strongRecOn with
  | ind d ih =>
    by_cases h : d < 10
    · rw [dgs_small h]; show 0 * 10 + (48 + d - 48) = d; omega
    · rw [dgs_big h, dval_snoc, ih (d / 10) (by omega)]; omega
theorem dgs_dg (d : Nat) : DG (dgs d) := by
  induction d using Nat.strongRecOn with
  | ind d ih =>
    by_cases h : d < 10
    · rw [dgs_small h]
      intro x hx
      rcases List.mem_singleton.1 hx with rfl
      omega
    · rw [dgs_big h]
      intro x hx
      rcases List.mem_append.1 hx with hx | hx
      · exact ih (d / 10) (by omega) x hx
      · rcases List.mem_singleton.1 hx with rfl
        omega
theorem dgs_len (d : Nat) : (dgs d).length = Lib.nDigits d := by unfold dgs; rw [List.length_map, Lib.decDigits_length]
theorem dgs_ne (d : Nat) : dgs d ≠ [] := by
  intro h
  have := dgs_len d
  rw [h] at this
  have := Lib.nDigits_pos d
  simp at *
  omega
theorem dgs_head (d : Nat) (h : 0 < d) : (dgs d).getD 0 0 ≠ 48 := by
  induction d using Nat.strongRecOn with
  | ind d ih =>
    by_cases h1 : d < 10
    · rw [dgs_small h1]; show 48 + d ≠ 48; omega
    · rw [dgs_big h1, getD_app_left (List.length_pos_iff.2 (dgs_ne _))]
      exact ih (d / 10) (by omega) (by omega)
/-- a number's digits, read at a point -/
theorem read_dgs {d : Nat} {p : Int} (h : 0 < d) (hl : Lib.nDigits d ≤ 800) (h1 : -400 ≤ p) (h2 : p ≤ 400) :
    readF (trimD (dgs d)) p = rungM (d * 10 ^ (p - Lib.nDigits d).toNat * 2 ^ K) (10 ^ (-(p - Lib.nDigits d)).toNat) := by
  rw [read_trim, read_num (by rw [dgs_len]; exact hl) (dgs_head d h) (dgs_ne d) h1 h2, dgs_val, dgs_len]
end Go.Proofs.YtjkifbkehochoaaGreatDoor

namespace Go.Proofs.YtjkifbkehochoaaGreatDoor
open Fl

/-- how two rows of digits stand, from a place on, so many places -/
def stI (a b : List Nat) : Nat → Nat → Int
  | 0, _ => 0
  | k + 1, i => if a.getD i 48 < b.getD i 48 then -1 else if b.getD i 48 < a.getD i 48 then 1 else stI a b k (i + 1)
def stF (a b : List Nat) : Int := stI a b (max a.length b.length) 0
theorem ten0 (k : Nat) : 0 < 10 ^ k := Nat.pow_pos (by decide)
/-- what counts of a number: eight hundred digits, and whether more is behind -/
def svN (x : Nat) : Nat := (10 * (x / 10 ^ (Lib.nDigits x - 800)) + (if x % 10 ^ (Lib.nDigits x - 800) = 0 then 0 else 1)) * 10 ^ (Lib.nDigits x - 800)
theorem nd_le {x k : Nat} (h : x < 10 ^ k) (hk : 0 < k) : Lib.nDigits x ≤ k := by
  rcases Nat.lt_or_ge k (Lib.nDigits x) with c | c
  · exfalso
    rcases Nat.eq_zero_or_pos x with h0 | h0
    · subst h0
      rw [Lib.nDigits_small (by decide)] at c; omega
    · have := Lib.nDigits_pos x
      have h2 := Lib.lt_pow_nDigits x
      have h3 : 10 ^ (Lib.nDigits x - 1) ≤ x := by
        rcases Nat.lt_or_ge x (10 ^ (Lib.nDigits x - 1)) with d | d
        · exfalso
          obtain ⟨m, hm⟩ : ∃ m, Lib.nDigits x = m + 1 := ⟨Lib.nDigits x - 1, by omega⟩
          rw [hm, Nat.add_sub_cancel] at d
          obtain ⟨q, hq1, hq2⟩ : ∃ q, 10 ^ q ≤ x ∧ x < 10 ^ (q + 1) := by
            clear h h2 c hm d this hk
            induction x using Nat.strongRecOn with
            | ind x ih =>
              by_cases hx : x < 10
              · exact ⟨0, by rw [Nat.pow_zero]; exact h0, by simpa using hx⟩
              · obtain ⟨q, a, b⟩ := ih (x / 10) (by omega) (by omega)
                exact ⟨q + 1, by rw [Nat.pow_succ]; omega, by rw [Nat.pow_succ]; omega⟩
          have h5 := Lib.nDigits_unique q x hq1 hq2
          have : q = m := by omega
          subst this
          omega
        · exact d
      have h4 := Nat.pow_le_pow_right (show 0 < 10 by decide) (show k ≤ Lib.nDigits x - 1 by omega)
      omega
  · exact c
theorem nd_low {x : Nat} (h0 : 0 < x) : 10 ^ (Lib.nDigits x - 1) ≤ x := by
  rcases Nat.lt_or_ge x (10 ^ (Lib.nDigits x - 1)) with d | d
  · exfalso
    have := Lib.nDigits_pos x
    rcases Nat.eq_zero_or_pos (Lib.nDigits x - 1) with c | c
    · rw [c, Nat.pow_zero] at d; omega
    · have := nd_le d c; omega
  · exact d
theorem nd_mono {x y : Nat} (h : x ≤ y) : Lib.nDigits x ≤ Lib.nDigits y := nd_le (Nat.lt_of_le_of_lt h (Lib.lt_pow_nDigits y)) (Lib.nDigits_pos y)
theorem sv_le (x : Nat) : svN x ≤ 10 * 10 ^ Lib.nDigits x := by
  have h2 := Lib.lt_pow_nDigits x
  unfold svN
  generalize Lib.nDigits x = L at *
  obtain ⟨g, hg⟩ : ∃ g, g = L - 800 := ⟨_, rfl⟩
  rw [← hg]
  have hp := ten0 g
  have e : 10 ^ L = 10 ^ (L - g) * 10 ^ g := by rw [← Nat.pow_add, show L - g + g = L by omega]
  have h3 : x / 10 ^ g < 10 ^ (L - g) := by rw [Nat.div_lt_iff_lt_mul hp, ← e]; exact h2
  rw [e, ← Nat.mul_assoc]
  refine Nat.mul_le_mul_right _ ?_
  split <;> omega
theorem sv_ge {x : Nat} (h0 : 0 < x) : 10 * 10 ^ (Lib.nDigits x - 1) ≤ svN x := by
  have h1 := nd_low h0
  have h2 := Lib.nDigits_pos x
  unfold svN
  generalize Lib.nDigits x = L at *
  obtain ⟨g, hg⟩ : ∃ g, g = L - 800 := ⟨_, rfl⟩
  rw [← hg]
  have e : 10 ^ (L - 1) = 10 ^ (L - 1 - g) * 10 ^ g := by rw [← Nat.pow_add, show L - 1 - g + g = L - 1 by omega]
  have h3 : 10 ^ (L - 1 - g) ≤ x / 10 ^ g := by rw [Nat.le_div_iff_mul_le (ten0 g), ← e]; exact h1
  rw [e, ← Nat.mul_assoc]
  refine Nat.mul_le_mul_right _ ?_
  split <;> omega
theorem sv_mono {x y : Nat} (h0 : 0 < x) (h : x ≤ y) : svN x ≤ svN y := by
  rcases Nat.lt_or_eq_of_le (nd_mono h) with c | c
  · refine Nat.le_trans (sv_le x) (Nat.le_trans ?_ (sv_ge (by omega : 0 < y)))
    refine Nat.mul_le_mul_left _ (Nat.pow_le_pow_right (by decide) (by omega))
  · unfold svN
    rw [c]
    generalize 10 ^ (Lib.nDigits y - 800) = G
    refine Nat.mul_le_mul_right _ ?_
    have h1 : x / G ≤ y / G := Nat.div_le_div_right h
    rcases Nat.lt_or_eq_of_le h1 with d | d
    · split <;> split <;> omega
    · have e1 := Nat.div_add_mod x G
      have e2 := Nat.div_add_mod y G
      rw [d] at e1 ⊢
      split <;> split <;> omega
theorem dval_app (l m : List Nat) : dval (l ++ m) = dval l * 10 ^ m.length + dval m := dval_more l m
theorem dval_lead : ∀ l : List Nat, dval l = dval (l.drop (lead l))
  | [] => rfl
  | x :: l => by
    rw [lead]
    by_cases h : x = 48
    · subst h
      rw [if_pos rfl, List.drop_succ_cons, ← dval_lead l]
      have := dval_app [48] l
      rw [show [48] ++ l = 48 :: l from rfl, show dval [48] = 0 from rfl, Nat.zero_mul, Nat.zero_add] at this
      exact this
    · rw [if_neg h, List.drop_zero]
theorem lead_drop (l : List Nat) : (l.drop (lead l)).length = l.length - lead l := List.length_drop ..
theorem dval_pos {l : List Nat} (hd : DG l) (h : lead l < l.length) : 10 ^ (l.length - lead l - 1) ≤ dval l ∧ dval l < 10 ^ (l.length - lead l) := by
  rw [dval_lead l]
  have hn := lead_not l h
  have e := List.drop_eq_getElem_cons h
  rw [List.getD, List.getElem?_eq_getElem h] at hn
  have hx : 48 ≤ l[lead l] := (hd _ (List.getElem_mem h)).1
  constructor
  · rw [e]
    have := dval_ge (x := l[lead l]) (r := l.drop (lead l + 1)) (by have : l[lead l] ≠ 48 := hn; omega)
    rw [List.length_drop] at this
    rw [show l.length - lead l - 1 = l.length - (lead l + 1) by omega]
    exact this
  · have := dval_lt (hd.drop (lead l)) (l.drop (lead l)).length (Nat.le_refl _)
    rw [List.take_length, lead_drop] at this
    exact this
theorem dval_nought {l : List Nat} (h : ¬ lead l < l.length) : dval l = 0 := by
  rw [dval_lead l, List.drop_eq_nil_of_le (by omega)]; rfl
theorem nd_lead {l : List Nat} (hd : DG l) (h : lead l < l.length) : Lib.nDigits (dval l) = l.length - lead l := by
  obtain ⟨h1, h2⟩ := dval_pos hd h
  have := Lib.nDigits_unique (l.length - lead l - 1) (dval l) h1 (by rw [show l.length - lead l - 1 + 1 = l.length - lead l by omega]; exact h2)
  omega
theorem te_last (l : List Nat) (f : Nat) : ∀ k, f < te l f k → l.getD (te l f k - 1) 0 ≠ 48
  | 0, h => by rw [te] at h; omega
  | k + 1, h => by
    rw [te] at h ⊢
    by_cases c : f < k + 1 ∧ l.getD k 0 = 48
    · rw [if_pos c] at h ⊢; exact te_last l f k h
    · rw [if_neg c] at h ⊢
      rw [Nat.add_sub_cancel]
      exact fun e => c ⟨h, e⟩
theorem strip_split {l : List Nat} : l.drop (lead l) = stripD l ++ List.replicate (l.length - te l (lead l) l.length) 48 := by
  have h := trim_rep l (lead l)
  have h2 := lead_le l
  have h3 := te_ge l (lead l) l.length h2
  have h4 := te_le l (lead l) l.length
  have e := congrArg (List.drop (lead l)) h
  rw [List.drop_append_of_le_length (by rw [List.length_take]; omega)] at e
  exact e
theorem snoc_last {l : List Nat} (hl : 0 < l.length) : l = l.take (l.length - 1) ++ [l.getD (l.length - 1) 0] := by
  have h : l.length - 1 < l.length := by omega
  rw [List.getD, List.getElem?_eq_getElem h]
  show l = l.take (l.length - 1) ++ [l[l.length - 1]]
  rw [List.take_append_getElem h, show l.length - 1 + 1 = l.length by omega, List.take_length]
/-- as what digits are read, by their number -/
theorem read_sv {l : List Nat} (hd : DG l) (h : lead l < l.length) {p : Int} (h1 : -400 ≤ p - lead l) (h2 : p - lead l ≤ 400) :
    readF l p = rungM (svN (dval l) * 10 ^ (p - l.length - 1).toNat * 2 ^ K) (10 ^ (-(p - l.length - 1)).toNat) := by
  have hne : stripD l ≠ [] := by
    obtain ⟨r, hr⟩ := strip_some h
    rw [hr]; exact List.cons_ne_nil _ _
  have hnd := nd_lead hd h
  have hlen := strip_len l
  have ht1 := te_le l (lead l) l.length
  have ht0 := te_ge l (lead l) l.length (lead_le l)
  have hds := hd.strip
  have hsp := strip_split (l := l)
  obtain ⟨z, hz⟩ : ∃ z, z = l.length - te l (lead l) l.length := ⟨_, rfl⟩
  rw [← hz] at hsp
  have hv : dval l = dval (stripD l) * 10 ^ z := by rw [dval_lead l, hsp, dval_rep]
  have hn : (stripD l).length + z = l.length - lead l := by omega
  have hpos : 0 < (stripD l).length := List.length_pos_iff.2 hne
  have hlast : dval (stripD l) % 10 ≠ 0 := by
    have hs := snoc_last hpos
    have hg : (stripD l).getD ((stripD l).length - 1) 0 ≠ 48 := by
      have := te_last l (lead l) l.length (by omega)
      have e : (stripD l).getD ((stripD l).length - 1) 0 = l.getD (te l (lead l) l.length - 1) 0 := by
        have e2 : (stripD l).length - 1 = te l (lead l) l.length - 1 - lead l := by omega
        rw [e2]
        unfold stripD
        rw [List.getD, List.getD, List.getElem?_drop, List.getElem?_take, if_pos (by omega), show lead l + (te l (lead l) l.length - 1 - lead l) = te l (lead l) l.length - 1 by omega]
      rw [e]; exact this
    have hdx : 48 ≤ (stripD l).getD ((stripD l).length - 1) 0 ∧ (stripD l).getD ((stripD l).length - 1) 0 ≤ 57 := by
      refine hd.strip _ ?_
      rw [List.getD, List.getElem?_eq_getElem (by omega)]
      exact List.getElem_mem _
    rw [hs, dval_snoc]
    omega
  unfold readF
  rw [if_neg (fun e => e.elim hne (by omega)), if_neg (by omega), if_neg (by omega)]
  unfold cutD
  by_cases hc : 800 < (stripD l).length
  · rw [if_pos hc]
    generalize stripD l = t at *
    obtain ⟨c, hcc⟩ : ∃ c, t.length = 800 + c := ⟨t.length - 800, by omega⟩
    have e1 : dval t = dval (t.take 800) * 10 ^ c + dval (t.drop 800) := by
      conv => lhs; rw [← List.take_append_drop 800 t]
      rw [dval_app, List.length_drop, hcc, show 800 + c - 800 = c by omega]
    have e2 : dval (t.drop 800) < 10 ^ c := by
      have := dval_lt (DG.drop hds 800) (t.drop 800).length (Nat.le_refl _)
      rw [List.take_length, List.length_drop, hcc, show 800 + c - 800 = c by omega] at this
      exact this
    have hdd : dval (t.take 800 ++ [49]) = 10 * dval (t.take 800) + 1 := by rw [dval_snoc]; omega
    have hll : (t.take 800 ++ [49]).length = 801 := by rw [List.length_append, List.length_take]; simp; omega
    have hg : Lib.nDigits (dval l) - 800 = c + z := by rw [hnd]; omega
    have q1 : dval l / 10 ^ (c + z) = dval (t.take 800) := by
      rw [hv, Nat.pow_add, Nat.mul_div_mul_right _ _ (ten0 z), e1, Nat.mul_comm, Nat.mul_add_div (ten0 c), Nat.div_eq_of_lt e2, Nat.add_zero]
    have q2 : dval l % 10 ^ (c + z) ≠ 0 := by
      rw [hv, Nat.pow_add, Nat.mul_mod_mul_right]
      refine Nat.mul_ne_zero ?_ (Nat.ne_of_gt (ten0 z))
      intro hm
      obtain ⟨j, rfl⟩ : ∃ j, c = j + 1 := ⟨c - 1, by omega⟩
      have : 10 ∣ dval t := Nat.dvd_trans (show 10 ∣ 10 ^ (j + 1) from ⟨10 ^ j, by rw [Nat.pow_succ, Nat.mul_comm]⟩) (Nat.dvd_of_mod_eq_zero hm)
      exact hlast (Nat.mod_eq_zero_of_dvd this)
    have hsv : svN (dval l) = dval (t.take 800 ++ [49]) * 10 ^ (c + z) := by
      unfold svN
      rw [hg, q1, if_neg q2, hdd]
    have h := ratio_shift (dval (t.take 800 ++ [49])) (c + z) (p - lead l - ((801 : Nat) : Int))
    rw [hsv]
    unfold numF
    rw [hll, show p - (l.length : Int) - 1 = p - lead l - ((801 : Nat) : Int) - ((c + z : Nat) : Int) by omega]
    exact h
  · rw [if_neg hc]
    generalize stripD l = t at *
    obtain ⟨g, hg⟩ : ∃ g, g = Lib.nDigits (dval l) - 800 := ⟨_, rfl⟩
    have hgz : g ≤ z := by rw [hg, hnd]; omega
    have q2 : dval l % 10 ^ g = 0 := by
      rw [hv, show z = (z - g) + g by omega, Nat.pow_add, ← Nat.mul_assoc, Nat.mul_mod_left]
    have hsv : svN (dval l) = dval t * 10 ^ (z + 1) := by
      unfold svN
      rw [← hg, if_pos q2, Nat.add_zero, Nat.mul_assoc, Nat.div_mul_cancel (Nat.dvd_of_mod_eq_zero q2), hv, Nat.pow_succ]
      rw [Nat.mul_comm 10, Nat.mul_assoc]
    have h := ratio_shift (dval t) (z + 1) (p - lead l - (t.length : Int))
    rw [hsv]
    unfold numF
    rw [show p - (l.length : Int) - 1 = p - lead l - (t.length : Int) - ((z + 1 : Nat) : Int) by omega]
    exact h
theorem read_nought {l : List Nat} (h : ¬ lead l < l.length) (p : Int) : readF l p = 0 := by
  have := lead_le l
  unfold readF
  rw [if_pos (.inl (strip_nil (by omega)))]
theorem readF_INF (l : List Nat) (p : Int) : readF l p ≤ INF := by
  unfold readF
  split
  · exact Nat.zero_le INF
  · split
    · exact Nat.le_refl INF
    · split
      · exact Nat.zero_le INF
      · unfold numF; exact Nat.min_le_right _ _
/-- of two rows of as many digits that which is not less is not read as less -/
theorem read_mono {a b : List Nat} (ha : DG a) (hb : DG b) (hl : a.length = b.length) (h : dval a ≤ dval b) (p : Int) : readF a p ≤ readF b p := by
  by_cases h1 : lead a < a.length
  · have pa := dval_pos ha h1
    have h2 : lead b < b.length := by
      rcases Nat.lt_or_ge (lead b) b.length with c | c
      · exact c
      · have := dval_nought (l := b) (by omega)
        have := ten0 (a.length - lead a - 1)
        omega
    have pb := dval_pos hb h2
    have hll : lead b ≤ lead a := by
      rcases Nat.lt_or_ge (lead a) (lead b) with c | c
      · exfalso
        have := Nat.pow_le_pow_right (show 0 < 10 by decide) (show b.length - lead b ≤ a.length - lead a - 1 by omega)
        omega
      · exact c
    have sa : stripD a ≠ [] := by
      obtain ⟨r, hr⟩ := strip_some h1
      rw [hr]; exact List.cons_ne_nil _ _
    have sb : stripD b ≠ [] := by
      obtain ⟨r, hr⟩ := strip_some h2
      rw [hr]; exact List.cons_ne_nil _ _
    by_cases c0 : p < -1099511627776
    · have : readF a p = 0 := by unfold readF; rw [if_pos (.inr c0)]
      omega
    · by_cases c1 : p - lead a < -400
      · have : readF a p = 0 := by unfold readF; rw [if_neg (fun e => e.elim sa c0), if_neg (by omega), if_pos c1]
        omega
      · by_cases c2 : 400 < p - lead b
        · have : readF b p = INF := by unfold readF; rw [if_neg (fun e => e.elim sb c0), if_pos c2]
          rw [this]; exact readF_INF a p
        · rw [read_sv ha h1 (by omega) (by omega), read_sv hb h2 (by omega) (by omega), hl]
          refine rungM_mono (ten0 _) (ten0 _) (Nat.mul_le_mul_right _ (Nat.mul_le_mul_right _ (Nat.mul_le_mul_right _ (sv_mono ?_ h))))
          have := ten0 (a.length - lead a - 1)
          omega
  · rw [read_nought h1]; exact Nat.zero_le _
end Go.Proofs.YtjkifbkehochoaaGreatDoor

namespace Go.Proofs.YtjkifbkehochoaaGreatDoor.Fl
open Ieee

/-- the value of a rounded number of units -/
theorem val_round (N : Nat) : val 52 (rungOf 52 N 0) = rhe N (2 ^ (N.log2 - 52)) * 2 ^ (N.log2 - 52) := by
  by_cases h0 : N = 0
  · subst h0; rw [rungOf_zero, val_zero, rhe_zero, Nat.zero_mul]
  have l1 := Nat.log2_self_le h0
  have l2 : N < 2 ^ (N.log2 + 1) := Nat.lt_log2_self
  unfold rungOf
  rw [Nat.sub_zero, Nat.zero_add]
  generalize hd : N.log2 - 52 = d at *
  rcases Nat.eq_zero_or_pos d with hz | hz
  · subst hz
    rw [Nat.pow_zero, rhe_one, Nat.zero_mul, Nat.zero_add, Nat.mul_one]
    refine val_small _ _ ?_
    have : 2 ^ (N.log2 + 1) ≤ 2 ^ 53 := Nat.pow_le_pow_right (by decide) (by omega)
    rw [show (2 : Nat) * 2 ^ 52 = 2 ^ 53 by decide]; omega
  · have e1 : N.log2 = d + 52 := by omega
    rw [e1, Nat.pow_add] at l1
    rw [e1, show d + 52 + 1 = d + 53 by omega, Nat.pow_add] at l2
    have q1 : 4503599627370496 ≤ rhe N (2 ^ d) := rhe_ge_of _ _ _ (Nat.two_pow_pos _) (by rw [show (4503599627370496 : Nat) = 2 ^ 52 by decide]; exact l1)
    have q2 : rhe N (2 ^ d) ≤ 9007199254740992 := rhe_le_of _ _ _ (Nat.two_pow_pos _) (by rw [show (9007199254740992 : Nat) = 2 ^ 53 by decide]; omega)
    generalize rhe N (2 ^ d) = q at *
    unfold val
    rw [show (2 : Nat) ^ 52 = 4503599627370496 by decide, if_neg (by omega)]
    by_cases hq : q = 9007199254740992
    · subst hq
      have a1 : (d * 4503599627370496 + 9007199254740992) / 4503599627370496 = d + 2 := by omega
      have a2 : (d * 4503599627370496 + 9007199254740992) % 4503599627370496 = 0 := by omega
      rw [a1, a2, show d + 2 - 1 = d + 1 by omega, Nat.pow_succ]
      generalize 2 ^ d = g
      omega
    · have a1 : (d * 4503599627370496 + q) / 4503599627370496 = d + 1 := by omega
      have a2 : (d * 4503599627370496 + q) % 4503599627370496 = q - 4503599627370496 := by omega
      rw [a1, a2, show d + 1 - 1 = d by omega, show 4503599627370496 + (q - 4503599627370496) = q by omega]
/-- above a bound all numbers are many times a power of two -/
theorem val_dvd (r d : Nat) (h : 4503599627370496 * 2 ^ d ≤ val 52 r) : ∃ k, val 52 r = k * 2 ^ d := by
  have hp := Nat.two_pow_pos d
  by_cases hr : r < 4503599627370496
  · rw [val_small 52 r (by rw [show (2 : Nat) ^ 52 = 4503599627370496 by decide]; omega)] at h
    have : 4503599627370496 * 1 ≤ 4503599627370496 * 2 ^ d := Nat.mul_le_mul_left _ hp
    omega
  · have hb := val_bounds 52 r (by rw [show (2 : Nat) ^ 52 = 4503599627370496 by decide]; omega)
    rw [show (2 : Nat) ^ 52 = 4503599627370496 by decide] at hb
    have h1 : 4503599627370496 * 2 ^ d < 4503599627370496 * 2 ^ (r / 4503599627370496) := by omega
    have h2 := Nat.lt_of_mul_lt_mul_left h1
    have h3 : d < r / 4503599627370496 := (Nat.pow_lt_pow_iff_right (by decide)).1 h2
    unfold val
    rw [show (2 : Nat) ^ 52 = 4503599627370496 by decide, if_neg hr]
    generalize r / 4503599627370496 = e at *
    refine ⟨(4503599627370496 + r % 4503599627370496) * 2 ^ (e - 1 - d), ?_⟩
    rw [Nat.mul_assoc, ← Nat.pow_add]
    congr 2; omega
theorem near_mul (N g k : Nat) (hg : 0 < g) : ((rhe N g * g : Nat) - (N : Int)).natAbs ≤ ((k * g : Nat) - (N : Int)).natAbs := by
  have hb := rhe_bounds N g hg
  rw [Nat.mul_comm g] at hb
  generalize rhe N g = q at *
  rcases Nat.lt_trichotomy k q with h | h | h
  · have h1 : (k + 1) * g ≤ q * g := Nat.mul_le_mul_right _ h
    rw [Nat.add_mul, Nat.one_mul] at h1
    omega
  · subst h; exact Nat.le_refl _
  · have h1 : (q + 1) * g ≤ k * g := Nat.mul_le_mul_right _ h
    rw [Nat.add_mul, Nat.one_mul] at h1
    omega
/-- no number is nearer -/
theorem nearest_le (N r : Nat) : ((val 52 (rungOf 52 N 0) : Nat) - (N : Int)).natAbs ≤ ((val 52 r : Nat) - (N : Int)).natAbs := by
  rw [val_round]
  by_cases h0 : N = 0
  · subst h0; rw [rhe_zero, Nat.zero_mul]; omega
  have l1 := Nat.log2_self_le h0
  generalize hd : N.log2 - 52 = d at *
  have hp := Nat.two_pow_pos d
  rcases Nat.eq_zero_or_pos d with hz | hz
  · subst hz; rw [Nat.pow_zero, rhe_one, Nat.mul_one]; omega
  · have e1 : N.log2 = 52 + d := by omega
    rw [e1, Nat.pow_add, show (2 : Nat) ^ 52 = 4503599627370496 by decide] at l1
    by_cases hv : 4503599627370496 * 2 ^ d ≤ val 52 r
    · obtain ⟨k, hk⟩ := val_dvd r d hv
      rw [hk]
      exact near_mul N (2 ^ d) k hp
    · have := near_mul N (2 ^ d) 4503599627370496 hp
      omega
theorem pow_split (j k : Nat) (h : j ≤ k) : ∃ c, 2 ^ k = c * 2 ^ j := ⟨2 ^ (k - j), by rw [← Nat.pow_add]; congr 1; omega⟩
/-- of many times a power of two nothing is lost, or what is left is -/
theorem round_mult (m j : Nat) : val 52 (rungOf 52 (m * 2 ^ j) 0) = m * 2 ^ j ∨ (j < (m * 2 ^ j).log2 - 52 ∧ ∃ k, val 52 (rungOf 52 (m * 2 ^ j) 0) = k * 2 ^ j) := by
  rw [val_round]
  generalize hd : (m * 2 ^ j).log2 - 52 = d
  rcases Nat.lt_or_ge j d with h | h
  · right
    obtain ⟨c, hc⟩ := pow_split j d (by omega)
    exact ⟨h, rhe (m * 2 ^ j) (2 ^ d) * c, by rw [hc, Nat.mul_assoc]⟩
  · left
    obtain ⟨c, hc⟩ := pow_split d j h
    rw [hc, ← Nat.mul_assoc, rhe_exact _ _ (Nat.two_pow_pos _)]
/-- such a number of units comes back whole -/
theorem rep_mult (m j r : Nat) (hm : m ≤ 9007199254740992) (hr : r < INF) (h : m * 2 ^ j ≤ val 52 r) : val 52 (rnd (m * 2 ^ j)) = m * 2 ^ j ∧ rnd (m * 2 ^ j) < INF := by
  have h1 := rnd_mono h
  rw [rnd_val r (by omega)] at h1
  have h2 : rnd (m * 2 ^ j) < INF := by omega
  have h3 : rnd (m * 2 ^ j) = rungOf 52 (m * 2 ^ j) 0 := by unfold rnd at h2 ⊢; omega
  exact ⟨by rw [h3]; exact val_rungOf_small 52 m j (by rw [show (2 : Nat) * 2 ^ 52 = 9007199254740992 by decide]; exact hm), h2⟩
end Go.Proofs.YtjkifbkehochoaaGreatDoor.Fl

namespace Go.Proofs.YtjkifbkehochoaaGreatDoor.Fl

theorem mant_step (a i : Nat) : 2 * (a / 2 ^ (i + 1)) + a / 2 ^ i % 2 = a / 2 ^ i := by
  rw [Nat.pow_succ, ← Nat.div_div_eq_div_mul]; omega
theorem low_succ (a i : Nat) : a % 2 ^ (i + 1) = 2 ^ i * (a / 2 ^ i % 2) + a % 2 ^ i := by
  rw [Nat.pow_succ, Nat.mod_mul]; omega
theorem low_step (a i : Nat) : a % 2 ^ (i + 1) = 0 ↔ (a % 2 ^ i = 0 ∧ a / 2 ^ i % 2 = 0) := by
  rw [low_succ]
  have h := Nat.two_pow_pos i
  rcases Nat.mod_two_eq_zero_or_one (a / 2 ^ i) with e | e <;> rw [e] <;> omega
theorem half_rhe (a l : Nat) : rhe a (2 ^ (l + 1)) = a / 2 ^ (l + 1) + (if a / 2 ^ l % 2 = 1 ∧ (a / 2 ^ (l + 1) % 2 = 1 ∨ a % 2 ^ l ≠ 0) then 1 else 0) := by
  unfold rhe
  have e := low_succ a l
  have h := Nat.two_pow_pos l
  have h2 := Nat.mod_lt a h
  rw [e]
  have e2 : 2 ^ (l + 1) = 2 * 2 ^ l := by rw [Nat.pow_succ]; omega
  congr 1
  rcases Nat.mod_two_eq_zero_or_one (a / 2 ^ l) with q | q
  · rw [q, if_neg (by omega), if_neg (by omega)]
  · rw [q]
    by_cases c : a / 2 ^ (l + 1) % 2 = 1 ∨ a % 2 ^ l ≠ 0
    · rw [if_pos (by omega), if_pos ⟨rfl, c⟩]
    · rw [if_neg (by omega), if_neg (by omega)]
/-- what is rounded once is rounded -/
theorem place_round (a : Nat) : rungOf 52 (rhe a (2 ^ (a.log2 - 52)) * 2 ^ (a.log2 - 52)) 0 = rungOf 52 a 0 := by
  rw [← val_round, rungOf_val]
end Go.Proofs.YtjkifbkehochoaaGreatDoor.Fl
