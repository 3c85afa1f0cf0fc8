/- Digits at a point: noughts ahead and behind change nothing; as what a row of digits is read; a number's own digits. Plain laws. Reading keeps the order of the digits. Plain laws. Plain laws: what rounding loses is a number. No program in sight. Plain laws of rounding bit by bit. Rounding as the reference does it: Drop, Near, Nearest. Plain laws, third part: products by powers of two; whole numbers as words. math.Ldexp of a normal number without a sign: the nearest number. The walks of Split, and of what Join is made of. -/
import Derived.Test.YtjkifbkehochoaaGreatDoorMgFl
import Derived.Test.YtjkifbkehochoaaGreatDoorMgDhE
import Derived.Lib.ItoaNum
import Derived.Test.YtjkifbkehochoaaGreatDoorLen
import Derived.Test.YtjkifbkehochoaaGreatDoorMgLgB
namespace Go.Proofs.YtjkifbkehochoaaGreatDoor
open Fl
theorem getD_app_left {l m : List Nat} {k : Nat} (h : k < l.length) : (l ++ m).getD k 0 = l.getD k 0 := by
  rw [List.getD, List.getD, List.getElem?_append_left h]
theorem te_behind (l : List Nat) (n f : Nat) (hf : f ≤ l.length) : ∀ k, k ≤ n → te (l ++ List.replicate n 48) f (l.length + k) = te l f l.length
  | 0, _ => by
    have h : ∀ j, j ≤ l.length → te (l ++ List.replicate n 48) f j = te l f j := fun j => by
      induction j with
      | zero => intro _; rfl
      | succ j ih =>
        intro hj
        rw [te, te, getD_app_left hj, ih (by omega)]
    exact h _ (Nat.le_refl _)
  | k + 1, hk => by
    have e : (l ++ List.replicate n 48).getD (l.length + k) 0 = 48 := by
      rw [List.getD, List.getElem?_append_right (by omega), show l.length + k - l.length = k by omega, List.getElem?_replicate, if_pos (by omega)]
      rfl
    rw [← Nat.add_assoc, te, if_pos ⟨by omega, e⟩]
    exact te_behind l n f hf k (by omega)
theorem lead_rep : ∀ n, lead (List.replicate n 48) = n
  | 0 => rfl
  | n + 1 => by rw [List.replicate_succ, lead, if_pos rfl, lead_rep n]
theorem lead_behind (n : Nat) : ∀ l : List Nat, lead l < l.length → lead (l ++ List.replicate n 48) = lead l
  | [], h => absurd h (Nat.lt_irrefl _)
  | x :: l, h => by
    rw [List.cons_append, lead, lead]
    by_cases hx : x = 48
    · rw [if_pos hx, if_pos hx, lead_behind n l (by rw [lead, if_pos hx, List.length_cons] at h; omega)]
    · rw [if_neg hx, if_neg hx]
theorem lead_all (n : Nat) : ∀ l : List Nat, lead l = l.length → lead (l ++ List.replicate n 48) = (l ++ List.replicate n 48).length
  | [], _ => by rw [List.nil_append, lead_rep, List.length_replicate]
  | x :: l, h => by
    rw [lead] at h
    by_cases hx : x = 48
    · rw [if_pos hx, List.length_cons] at h
      rw [List.cons_append, lead, if_pos hx, lead_all n l (by omega), List.length_cons]
    · rw [if_neg hx, List.length_cons] at h; omega
theorem strip_behind {l : List Nat} (n : Nat) (h : lead l < l.length) : stripD (l ++ List.replicate n 48) = stripD l := by
  have h2 := te_behind l n (lead l) (Nat.le_of_lt h) n (Nat.le_refl _)
  unfold stripD
  rw [lead_behind n l h, List.length_append, List.length_replicate, h2, List.take_append_of_le_length (te_le _ _ _)]
/-- noughts behind change nothing -/
theorem read_behind (l : List Nat) (n : Nat) (p : Int) : readF (l ++ List.replicate n 48) p = readF l p := by
  rcases Nat.lt_or_ge (lead l) l.length with h | h
  · unfold readF
    rw [strip_behind n h, lead_behind n l h]
  · have h1 : lead l = l.length := Nat.le_antisymm (lead_le l) h
    unfold readF
    rw [if_pos (.inl (strip_nil (lead_all n l h1))), if_pos (.inl (strip_nil h1))]
theorem lead_ahead (l : List Nat) : ∀ n, lead (List.replicate n 48 ++ l) = n + lead l
  | 0 => by rw [List.replicate_zero, List.nil_append, Nat.zero_add]
  | n + 1 => by rw [List.replicate_succ, List.cons_append, lead, if_pos rfl, lead_ahead l n]; omega
theorem drop_ahead (l : List Nat) (n k : Nat) : (List.replicate n 48 ++ l).drop (n + k) = l.drop k := by
  rw [List.drop_append, List.drop_eq_nil_of_le (by rw [List.length_replicate]; omega), List.nil_append, List.length_replicate, Nat.add_sub_cancel_left]
theorem strip_ahead (l : List Nat) (n : Nat) : stripD (List.replicate n 48 ++ l) = stripD l := by
  rw [strip_two, strip_two l, lead_ahead, drop_ahead, List.length_append, List.length_replicate, show n + l.length - (n + lead l) = l.length - lead l by omega]
/-- noughts ahead move the point alone -/
theorem read_ahead (l : List Nat) (n : Nat) (p : Int) : readF (List.replicate n 48 ++ l) (p + n) = readF l p := by
  unfold readF
  rw [strip_ahead, lead_ahead, show p + (n : Int) - ((n + lead l : Nat) : Int) = p - lead l by omega]
  by_cases hs : stripD l = []
  · rw [if_pos (.inl hs), if_pos (.inl hs)]
  · by_cases h1 : p < -1099511627776
    · rw [if_pos (c := stripD l = [] ∨ p < -1099511627776) (.inr h1)]
      by_cases h2 : stripD l = [] ∨ p + (n : Int) < -1099511627776
      · rw [if_pos h2]
      · rw [if_neg h2, if_neg (by omega), if_pos (by omega)]
    · rw [if_neg (c := stripD l = [] ∨ p < -1099511627776) (fun e => e.elim hs h1), if_neg (c := stripD l = [] ∨ p + (n : Int) < -1099511627776) (fun e => e.elim hs (by omega))]
theorem te_rep (l : List Nat) (f : Nat) : ∀ k, k ≤ l.length → l.take k = l.take (te l f k) ++ List.replicate (k - te l f k) 48
  | 0, _ => by rw [te, Nat.sub_self, List.replicate_zero, List.append_nil]
  | k + 1, hk => by
    have h0 := te_le l f k
    rw [te]
    by_cases h : f < k + 1 ∧ l.getD k 0 = 48
    · rw [if_pos h]
      have e : l[k]? = some 48 := by
        have := h.2
        rw [List.getD, List.getElem?_eq_getElem hk] at this
        rw [List.getElem?_eq_getElem hk]
        exact congrArg some this
      rw [List.take_add_one, e, te_rep l f k (by omega), List.append_assoc, show k + 1 - te l f k = (k - te l f k) + 1 by omega, List.replicate_succ']
      rfl
    · rw [if_neg h, Nat.sub_self, List.replicate_zero, List.append_nil]
theorem trim_rep (l : List Nat) (f : Nat) : l = l.take (te l f l.length) ++ List.replicate (l.length - te l f l.length) 48 := by
  have h := te_rep l f l.length (Nat.le_refl _)
  rwa [List.take_length] at h
/-- a row without the noughts behind -/
def trimD (l : List Nat) : List Nat := l.take (te l 0 l.length)
theorem read_trim (l : List Nat) (p : Int) : readF (trimD l) p = readF l p := by
  conv => rhs; rw [trim_rep l 0]
  exact (read_behind _ _ _).symm
theorem dval_rep (l : List Nat) : ∀ n, dval (l ++ List.replicate n 48) = dval l * 10 ^ n
  | 0 => by rw [List.replicate_zero, List.append_nil, Nat.pow_zero, Nat.mul_one]
  | n + 1 => by rw [List.replicate_succ', ← List.append_assoc, dval_snoc, dval_rep l n, Nat.pow_succ, ← Nat.mul_assoc]; omega
/-- a quotient by powers of ten, written with more noughts -/
theorem ratio_shift (X z : Nat) (e : Int) : rungM (X * 10 ^ e.toNat * 2 ^ K) (10 ^ (-e).toNat) = rungM (X * 10 ^ z * 10 ^ (e - z).toNat * 2 ^ K) (10 ^ (-(e - z)).toNat) := by
  generalize 2 ^ K = T
  have P0 : ∀ k : Nat, 0 < 10 ^ k := fun k => Nat.pow_pos (by decide)
  rcases Int.le_total (z : Int) e with h | h
  · rw [show (-e).toNat = 0 by omega, show (-(e - z)).toNat = 0 by omega, Nat.mul_assoc X (10 ^ z), ← Nat.pow_add, show z + (e - z).toNat = e.toNat by omega]
  · rcases Int.le_total 0 e with h0 | h0
    · rw [show (-e).toNat = 0 by omega, show (e - z).toNat = 0 by omega, ← rungM_scale _ (10 ^ 0) (10 ^ (-(e - z)).toNat) (P0 _), Nat.pow_zero, Nat.one_mul, Nat.mul_one]
      congr 1
      rw [Nat.mul_right_comm, Nat.mul_assoc X, ← Nat.pow_add, show e.toNat + (-(e - z)).toNat = z by omega]
    · rw [show e.toNat = 0 by omega, show (e - z).toNat = 0 by omega, ← rungM_scale _ (10 ^ (-e).toNat) (10 ^ z) (P0 _), ← Nat.pow_add, show (-e).toNat + z = (-(e - z)).toNat by omega, Nat.pow_zero, Nat.mul_one, Nat.mul_one]
      congr 1
      exact Nat.mul_right_comm _ _ _
/-- as what a short row is read -/
theorem read_num {l : List Nat} {p : Int} (hl : l.length ≤ 800) (h0 : l.getD 0 0 ≠ 48) (hn : l ≠ []) (h1 : -400 ≤ p) (h2 : p ≤ 400) :
    readF l p = rungM (dval l * 10 ^ (p - l.length).toNat * 2 ^ K) (10 ^ (-(p - l.length)).toNat) := by
  have hle : lead l = 0 := by
    cases l with
    | nil => exact absurd rfl hn
    | cons x l =>
      have h0 : x ≠ 48 := h0
      rw [lead, if_neg h0]
  have hpos : 0 < l.length := List.length_pos_iff.2 hn
  have hst : stripD l = trimD l := by unfold stripD trimD; rw [hle, List.drop_zero]
  have hne : stripD l ≠ [] := by
    obtain ⟨r, hr⟩ := strip_some (l := l) (by omega)
    rw [hr]; exact List.cons_ne_nil _ _
  have hlen : (trimD l).length ≤ 800 := by
    unfold trimD
    rw [List.length_take]
    omega
  unfold readF
  rw [if_neg (fun e => e.elim hne (by omega)), hle, if_neg (by omega), if_neg (by omega), hst]
  have hc : cutD (trimD l) = trimD l := by unfold cutD; rw [if_neg (by omega)]
  rw [hc]
  have e := trim_rep l 0
  obtain ⟨z, hz⟩ : ∃ z, z = l.length - te l 0 l.length := ⟨_, rfl⟩
  rw [← hz] at e
  have e2 : l = trimD l ++ List.replicate z 48 := e
  have e3 : dval l = dval (trimD l) * 10 ^ z := by rw [← dval_rep, ← e2]
  have e4 : l.length = (trimD l).length + z := by
    have := congrArg List.length e2
    rw [List.length_append, List.length_replicate] at this
    exact this
  have h := ratio_shift (dval (trimD l)) z (p - (trimD l).length)
  rw [e3, e4]
  unfold numF
  rw [show p - ((0 : Nat) : Int) = p by omega, show p - (((trimD l).length + z : Nat) : Int) = p - (trimD l).length - z by omega]
  exact h
/-- a number's digits -/
def dgs (d : Nat) : List Nat := (Lib.decDigits d).map UInt8.toNat
theorem dgs_small {d : Nat} (h : d < 10) : dgs d = [48 + d] := by
  unfold dgs
  rw [Lib.decDigits_one h, List.map_singleton, UInt8.toNat_ofNat', Nat.mod_eq_of_lt (by omega)]
theorem dgs_big {d : Nat} (h : ¬ d < 10) : dgs d = dgs (d / 10) ++ [48 + d % 10] := by
  unfold dgs
  rw [Lib.decDigits, dif_neg h, List.map_append, List.map_singleton, UInt8.toNat_ofNat', Nat.mod_eq_of_lt (by omega)]
theorem dgs_val (d : Nat) : dval (dgs d) = d := by
  induction d using Nat.strongRecOn with
  | ind d ih =>
    by_cases h : d < 10
    · rw [dgs_small h]; show 0 * 10 + (48 + d - 48) = d; omega
    · rw [dgs_big h, dval_snoc, ih (d / 10) (by omega)]; omega
theorem dgs_dg (d : Nat) : DG (dgs d) := by
  induction d using Nat.strongRecOn with
  | ind d ih =>
    by_cases h : d < 10
    · rw [dgs_small h]
      intro x hx
      rcases List.mem_singleton.1 hx with rfl
      omega
    · rw [dgs_big h]
      intro x hx
      rcases List.mem_append.1 hx with hx | hx
      · exact ih (d / 10) (by omega) x hx
      · rcases List.mem_singleton.1 hx with rfl
        omega
theorem dgs_len (d : Nat) : (dgs d).length = Lib.nDigits d := by unfold dgs; rw [List.length_map, Lib.decDigits_length]
theorem dgs_ne (d : Nat) : dgs d ≠ [] := by
  intro h
  have := dgs_len d
  rw [h] at this
  have := Lib.nDigits_pos d
  simp at *
  omega
theorem dgs_head (d : Nat) (h : 0 < d) : (dgs d).getD 0 0 ≠ 48 := by
  induction d using Nat.strongRecOn with
  | ind d ih =>
    by_cases h1 : d < 10
    · rw [dgs_small h1]; show 48 + d ≠ 48; omega
    · rw [dgs_big h1, getD_app_left (List.length_pos_iff.2 (dgs_ne _))]
      exact ih (d / 10) (by omega) (by omega)
/-- a number's digits, read at a point -/
theorem read_dgs {d : Nat} {p : Int} (h : 0 < d) (hl : Lib.nDigits d ≤ 800) (h1 : -400 ≤ p) (h2 : p ≤ 400) :
    readF (trimD (dgs d)) p = rungM (d * 10 ^ (p - Lib.nDigits d).toNat * 2 ^ K) (10 ^ (-(p - Lib.nDigits d)).toNat) := by
  rw [read_trim, read_num (by rw [dgs_len]; exact hl) (dgs_head d h) (dgs_ne d) h1 h2, dgs_val, dgs_len]
end Go.Proofs.YtjkifbkehochoaaGreatDoor

namespace Go.Proofs.YtjkifbkehochoaaGreatDoor
open Fl
theorem nd_le {x k : Nat} (h : x < 10 ^ k) (hk : 0 < k) : Lib.nDigits x ≤ k := by
  rcases Nat.lt_or_ge k (Lib.nDigits x) with c | c
  · exfalso
    rcases Nat.eq_zero_or_pos x with h0 | h0
    · subst h0
      rw [Lib.nDigits_small (by decide)] at c; omega
    · have := Lib.nDigits_pos x
      have h2 := Lib.lt_pow_nDigits x
      have h3 : 10 ^ (Lib.nDigits x - 1) ≤ x := by
        rcases Nat.lt_or_ge x (10 ^ (Lib.nDigits x - 1)) with d | d
        · exfalso
          obtain ⟨m, hm⟩ : ∃ m, Lib.nDigits x = m + 1 := ⟨Lib.nDigits x - 1, by omega⟩
          rw [hm, Nat.add_sub_cancel] at d
          obtain ⟨q, hq1, hq2⟩ : ∃ q, 10 ^ q ≤ x ∧ x < 10 ^ (q + 1) := by
            clear h h2 c hm d this hk
            induction x using Nat.strongRecOn with
            | ind x ih =>
              by_cases hx : x < 10
              · exact ⟨0, by rw [Nat.pow_zero]; exact h0, by simpa using hx⟩
              · obtain ⟨q, a, b⟩ := ih (x / 10) (by omega) (by omega)
                exact ⟨q + 1, by rw [Nat.pow_succ]; omega, by rw [Nat.pow_succ]; omega⟩
          have h5 := Lib.nDigits_unique q x hq1 hq2
          have : q = m := by omega
          subst this
          omega
        · exact d
      have h4 := Nat.pow_le_pow_right (show 0 < 10 by decide) (show k ≤ Lib.nDigits x - 1 by omega)
      omega
  · exact c
end Go.Proofs.YtjkifbkehochoaaGreatDoor

namespace Go.Proofs.YtjkifbkehochoaaGreatDoor.Fl
open Ieee
end Go.Proofs.YtjkifbkehochoaaGreatDoor.Fl

namespace Go.Proofs.YtjkifbkehochoaaGreatDoor.Fl
end Go.Proofs.YtjkifbkehochoaaGreatDoor.Fl

namespace Go.Proofs.YtjkifbkehochoaaGreatDoor
open Go.RowKit Fl
/-- The rung nearest to m 2^p. -/
def near (m : Nat) (p : Int) : Nat := rungOf 52 (m * 2 ^ (p + 1074).toNat) (-1074 - p).toNat
theorem near_core (m : Nat) (p : Int) (h0 : 0 < m) (E : Int) (hE : E = max ((m.log2 : Int) + 1 + p - 53) (-1074)) :
    near m p = (E + 1074).toNat * 2 ^ 52 + rhe (m * 2 ^ (p - E).toNat) (2 ^ (E - p).toNat) ∧ rhe (m * 2 ^ (p - E).toNat) (2 ^ (E - p).toNat) ≤ 2 * 2 ^ 52 ∧ (E = -1074 ∨ 2 ^ 52 ≤ rhe (m * 2 ^ (p - E).toNat) (2 ^ (E - p).toNat)) := by
  have hm : m ≠ 0 := by omega
  have l1 := Nat.log2_self_le hm
  have l2 : m < 2 ^ (m.log2 + 1) := Nat.lt_log2_self
  refine ⟨?_, ?_, ?_⟩
  · unfold near rungOf
    rw [log2_mul_pow m _ hm]
    have e1 : m.log2 + (p + 1074).toNat - 52 - (-1074 - p).toNat = (E + 1074).toNat := by omega
    rw [e1]
    refine congrArg (fun r => (E + 1074).toNat * 2 ^ 52 + r) ?_
    have e2 : (p + 1074).toNat + (E - p).toNat = (p - E).toNat + ((-1074 - p).toNat + (E + 1074).toNat) := by omega
    rcases Int.le_total E p with h | h
    · -- the shift is to the left
      have a1 : (E - p).toNat = 0 := by omega
      have a2 : (-1074 - p).toNat = 0 := by omega
      have a3 : (p + 1074).toNat = (p - E).toNat + (E + 1074).toNat := by omega
      rw [a1, a2, a3, Nat.pow_zero, rhe_one, Nat.zero_add, Nat.pow_add, ← Nat.mul_assoc, rhe_exact _ _ (Nat.two_pow_pos _)]
    · have a1 : (p - E).toNat = 0 := by omega
      have a2 : (-1074 - p).toNat + (E + 1074).toNat = (E - p).toNat + (p + 1074).toNat := by omega
      rw [a1, a2, Nat.pow_zero, Nat.mul_one, Nat.pow_add, rhe_mul _ _ _ (Nat.two_pow_pos _)]
  · refine rhe_le_of _ _ _ (Nat.two_pow_pos _) ?_
    rw [show (2 * 2 ^ 52 : Nat) = 2 ^ 53 from by decide, ← Nat.pow_add]
    have h3 : m * 2 ^ (p - E).toNat < 2 ^ (m.log2 + 1) * 2 ^ (p - E).toNat := Nat.mul_lt_mul_of_pos_right l2 (Nat.two_pow_pos _)
    rw [← Nat.pow_add] at h3
    have h4 : 2 ^ (m.log2 + 1 + (p - E).toNat) ≤ 2 ^ ((E - p).toNat + 53) := Nat.pow_le_pow_right (by omega) (by omega)
    omega
  · rcases Int.lt_or_le (-1074) E with h | h
    · right
      refine rhe_ge_of _ _ _ (Nat.two_pow_pos _) ?_
      rw [← Nat.pow_add]
      have h3 : 2 ^ m.log2 * 2 ^ (p - E).toNat ≤ m * 2 ^ (p - E).toNat := Nat.mul_le_mul_right _ l1
      rw [← Nat.pow_add] at h3
      have h4 : 2 ^ ((E - p).toNat + 52) ≤ 2 ^ (m.log2 + (p - E).toNat) := Nat.pow_le_pow_right (by omega) (by omega)
      omega
    · left; omega
theorem blen_pos (m : Nat) (h : 0 < m) : (blen m : Int) = (m.log2 : Int) + 1 := by
  unfold blen; rw [if_neg (by omega)]; omega
theorem near_zero (p : Int) : near 0 p = 0 := by unfold near; rw [Nat.zero_mul, rungOf_zero]
end Go.Proofs.YtjkifbkehochoaaGreatDoor

namespace Go.Proofs.YtjkifbkehochoaaGreatDoor.Fl
open Ieee
theorem B52 : (2 : Nat) ^ 52 = 4503599627370496 := by decide
/-- The word of exponent field E and fraction F, without a sign. -/
theorem read_normal (E F : Nat) (h1 : 1 ≤ E) (h2 : E ≤ 2046) (hF : F < 4503599627370496) :
    double.read (E * 4503599627370496 + F) = .number false (4503599627370496 + F) ((E : Int) - 1075) := by
  have hl : E * 4503599627370496 + F < 9223372036854775808 := by omega
  have hr : rg (E * 4503599627370496 + F) = E * 4503599627370496 + F := Nat.mod_eq_of_lt hl
  have hs : sg (E * 4503599627370496 + F) = false := by unfold sg; exact decide_eq_false (by omega)
  have hi : INF = 9218868437227405312 := rfl
  rw [read_eq _ (by omega), hr, hs, if_neg (by omega), if_pos (by omega)]
  have e1 : (E * 4503599627370496 + F) % 4503599627370496 = F := by omega
  have e2 : (E * 4503599627370496 + F) / 4503599627370496 - 1 = E - 1 := by omega
  rw [e1, e2]
  congr 1; omega
theorem read_1 : double.read 4607182418800017408 = .number false 4503599627370496 (-52) := by decide
theorem read_2p53 : double.read 4368491638549381120 = .number false 4503599627370496 (-105) := by decide
theorem mul_by (c : Nat) (q : Int) (hc : double.read c = .number false 4503599627370496 q) (E F : Nat) (h1 : 1 ≤ E) (h2 : E ≤ 2046) (hF : F < 4503599627370496) :
    double.mul c (E * 4503599627370496 + F) = some (double.nearest false (4503599627370496 + F) ((E : Int) - 1075 + q + 52)) := by
  unfold Format.mul
  rw [hc, read_normal E F h1 h2 hF]
  simp only [Datum.product, Option.map_some, Bool.xor_false]
  refine congrArg some ?_
  show double.nearest false _ _ = _
  have := d_nearest_scale false (4503599627370496 + F) 52 (q + ((E : Int) - 1075))
  rw [B52] at this
  rw [Nat.mul_comm, this]
  congr 1; omega
theorem log2_53 (F : Nat) (hF : F < 4503599627370496) : (4503599627370496 + F).log2 = 52 := log2_eq _ 52 (by rw [B52]; omega) (by rw [Nat.pow_succ, B52]; omega)
/-- A whole number below 2^53 as a word. -/
theorem nearest_int (n : Nat) : ∀ neg, double.nearest neg n 0 = word neg (rnd (n * ONE)) := by
  intro neg
  rw [d_nearest _ _ _ (by decide), show ((0 : Int) + 1074).toNat = K from by decide, ← one_pow]
end Go.Proofs.YtjkifbkehochoaaGreatDoor.Fl

namespace Go.Proofs.YtjkifbkehochoaaGreatDoor
open Go.RowKit Fl
theorem U_rg (x : Nat) : U (rg x) := by have := rg_lt x; unfold U; omega
theorem sg_rg (x : Nat) : sg (rg x) = false := by unfold sg; have := rg_lt x; exact decide_eq_false (by omega)
theorem rg_rg (x : Nat) : rg (rg x) = rg x := Nat.mod_eq_of_lt (rg_lt x)
set_option maxRecDepth 100000 in
theorem c133 (x : Nat) (w : World) (hx : U x) : Calls Tryz.prog 22 #[.float .f64 x] w fun e w' => e = .returned (.float .f64 (rg x)) ∧ w = w' := by
  have h2 := b_mag x hx
  go_enter Tryz.func22, Tryz.ntmps22
  go_wp2
  go_ret
  exact ⟨rfl, rfl⟩
set_option maxRecDepth 100000 in
theorem c129 (x : Nat) (w : World) (hx : U x) : Calls Tryz.prog 109 #[.float .f64 x] w fun e w' => e = .returned (.bool (isN x)) ∧ w = w' := by
  have h2 := neq_self x hx
  go_enter Tryz.func109, Tryz.ntmps109
  go_wp2
  go_ret
  exact ⟨rfl, rfl⟩
def isI (x : Nat) : Bool := decide (rg x = 9218868437227405312)
theorem isI_eq (x : Nat) : fltP 9218868437227405311 (pl (rg x)) = isI x := by
  unfold isI
  have hr := rg_lt x
  cases hn : isN (rg x)
  · have h1 := isN_false hn
    rw [rg_rg] at h1
    have : pl (rg x) = (rg x : Int) := by rw [pl_pos hn (sg_rg x), rg_rg]
    rw [this, Bool.eq_iff_iff]
    unfold INF at h1
    simp [fltP, zk]; omega
  · rw [pl_nan hn]
    have h1 := isN_true hn
    rw [rg_rg] at h1
    unfold INF at h1
    symm
    exact decide_eq_false (by omega)
set_option maxRecDepth 100000 in
theorem c130 (x : Nat) (w : World) (hx : U x) : Calls Tryz.prog 110 #[.float .f64 x, .int .i64 0] w fun e w' => e = .returned (.bool (isI x)) ∧ w = w' := by
  have e2 := f_gt (rg x) 9218868437227405311 (U_rg x) U_MAX
  rw [pl_MAX, isI_eq] at e2
  go_enter Tryz.func110, Tryz.ntmps110
  go_wp2_with (go_at_call 22; refine (c133 _ _ (by assumption)).mono ?_; rintro e w' ⟨rfl, rfl⟩)
  go_ret
  exact ⟨rfl, rfl⟩
set_option maxRecDepth 100000 in
theorem c137p (w : World) : Calls Tryz.prog 54 #[.int .i64 1] w fun e w' => e = .returned (.float .f64 9218868437227405312) ∧ w = w' := by
  go_enter Tryz.func54, Tryz.ntmps54
  go_wp2
  go_ret
  exact ⟨rfl, rfl⟩
/-- the word of a normal number without a sign -/
def nw (E F : Nat) : Nat := E * 4503599627370496 + F
theorem nw_lt {E F : Nat} (h2 : E ≤ 2046) (hF : F < 4503599627370496) : nw E F < 9218868437227405312 := by unfold nw; omega
theorem U_nw {E F : Nat} (h2 : E ≤ 2046) (hF : F < 4503599627370496) : U (nw E F) := by have := nw_lt h2 hF; unfold U; omega
theorem sg_nw {E F : Nat} (h2 : E ≤ 2046) (hF : F < 4503599627370496) : sg (nw E F) = false := by have := nw_lt h2 hF; unfold sg; exact decide_eq_false (by omega)
theorem rg_nw {E F : Nat} (h2 : E ≤ 2046) (hF : F < 4503599627370496) : rg (nw E F) = nw E F := rg_of_not (sg_nw h2 hF)
theorem isN_nw {E F : Nat} (h2 : E ≤ 2046) (hF : F < 4503599627370496) : isN (nw E F) = false := by
  unfold isN; rw [rg_nw h2 hF]; have := nw_lt h2 hF; unfold INF; exact decide_eq_false (by omega)
theorem isI_nw {E F : Nat} (h2 : E ≤ 2046) (hF : F < 4503599627370496) : isI (nw E F) = false := by
  unfold isI; rw [rg_nw h2 hF]; have := nw_lt h2 hF; exact decide_eq_false (by omega)
theorem pl_nw {E F : Nat} (h2 : E ≤ 2046) (hF : F < 4503599627370496) : pl (nw E F) = ((nw E F : Nat) : Int) := by
  rw [pl_pos (isN_nw h2 hF) (sg_nw h2 hF), rg_nw h2 hF]
theorem U_min : U 4503599627370496 := by unfold U; decide
theorem pl_min : pl 4503599627370496 = 4503599627370496 := by decide
set_option maxRecDepth 100000 in
theorem c190 (E F : Nat) (w : World) (h1 : 1 ≤ E) (h2 : E ≤ 2046) (hF : F < 4503599627370496) :
    Calls Tryz.prog 128 #[.float .f64 (nw E F)] w fun e w' => e = .returned (.tuple #[.float .f64 (nw E F), .int .i64 0]) ∧ w = w' := by
  have hu := U_nw h2 hF
  have hr := rg_nw h2 hF
  have e := f_lt (nw E F) 4503599627370496 hu U_min
  have e' : (FloatKind.f64.format.order (nw E F) 4503599627370496 == some Ordering.lt) = false := by
    rw [e, pl_nw h2 hF, pl_min]
    have := nw_lt h2 hF
    have h3 : 4503599627370496 ≤ nw E F := by unfold nw; omega
    generalize nw E F = x at *
    simp [fltP, zk]; omega
  clear e h1 h2 hF
  generalize nw E F = x at *
  go_enter Tryz.func128, Tryz.ntmps128
  go_wp2_with (go_at_call 22; refine (c133 _ _ (by assumption)).mono ?_; rintro e w' ⟨rfl, rfl⟩)
  go_ret2
  exact ⟨rfl, rfl⟩
theorem i64_and_nat (a b : Nat) (ha : a < 9223372036854775808) (hb : b < 9223372036854775808) : bits .and .i64 (a : Int) (b : Int) = ((a &&& b : Nat) : Int) := by
  have e1 : (BitVec.ofInt 64 (a : Int)).toNat = a := by rw [BitVec.toNat_ofInt]; omega
  have e2 : (BitVec.ofInt 64 (b : Int)).toNat = b := by rw [BitVec.toNat_ofInt]; omega
  show IntKind.i64.wrap (((BitVec.ofInt 64 (a : Int) &&& BitVec.ofInt 64 (b : Int)).toNat : Nat) : Int) = _
  have h : a &&& b ≤ a := Nat.and_le_left
  rw [BitVec.toNat_and, e1, e2, IntKind.wrap_i64]
  omega
theorem i64_field (E : Nat) (h : E ≤ 2047) : bits .and .i64 (E : Int) 2047 = (E : Int) := by
  rw [show (2047 : Int) = ((2047 : Nat) : Int) from rfl, i64_and_nat _ _ (by omega) (by omega)]
  congr 1
  have := Nat.and_two_pow_sub_one_eq_mod E 11
  rw [show (2 ^ 11 - 1 : Nat) = 2047 from by decide] at this
  rw [this]; omega
theorem b_unfield (E F : Nat) (h2 : E ≤ 2046) (hF : F < 4503599627370496) : bits .andNot .u64 ((nw E F : Nat) : Int) 9218868437227405312 = (F : Int) := by
  have hl := nw_lt h2 hF
  rw [show (9218868437227405312 : Int) = ((9218868437227405312 : Nat) : Int) from rfl, u64_andNot_nat _ _ (by omega) (by omega)]
  have hc : 18446744073709551615 - 9218868437227405312 = 2 ^ 63 ||| (2 ^ 52 - 1) := by decide
  rw [hc, Nat.and_or_distrib_left, nat_bit 63, Nat.and_two_pow_sub_one_eq_mod]
  have e1 : nw E F / 2 ^ 63 = 0 := Nat.div_eq_of_lt (by omega)
  have e2 : nw E F % 2 ^ 52 = F := by unfold nw; omega
  rw [e1, e2]
  simp
theorem b_field (e F : Nat) (h2 : e ≤ 2046) (hF : F < 4503599627370496) : bits .or .u64 (F : Int) ((e : Int) * 4503599627370496) = ((nw e F : Nat) : Int) := by
  have e1 : (e : Int) * 4503599627370496 = ((e * 4503599627370496 : Nat) : Int) := by omega
  rw [e1, u64_or_nat _ _ (by omega) (by omega), Nat.or_comm]
  have hj : e * 4503599627370496 ||| F = e * 4503599627370496 + F := nat_join 52 (e * 4503599627370496) F (by omega) (by omega)
  rw [hj]; rfl
set_option maxRecDepth 100000 in
theorem c175 (f s : Nat) (w : World) (hf : U f) (hs : U s) : Calls Tryz.prog 26 #[.float .f64 f, .float .f64 s] w fun e w' => e = .returned (.float .f64 (word (sg s) (rg f))) ∧ w = w' := by
  have h1 := b_mag f hf
  have h2 := b_sign s hs
  cases c : sg s
  · rw [c, if_neg (by decide)] at h2
    have h3 : bits .or .u64 (rg f : Int) 0 = (rg f : Int) := by
      have := rg_lt f
      rw [show (0 : Int) = ((0 : Nat) : Int) from rfl, u64_or_nat _ _ (by omega) (by omega), Nat.or_zero]
    go_enter Tryz.func26, Tryz.ntmps26
    go_wp2
    go_ret
    exact ⟨rfl, rfl⟩
  · rw [c, if_pos rfl] at h2
    have h3 := b_or (rg f) (rg_lt f)
    go_enter Tryz.func26, Tryz.ntmps26
    go_wp2
    go_ret
    exact ⟨rfl, rfl⟩
theorem near_word (m : Nat) (p : Int) : Ieee.double.nearest false m p = min (near m p) INF := by
  rw [nearest_eq, word_eq, d_fb, d_inf, d_least]
  unfold near word
  rw [show p - -1074 = p + 1074 by omega]
  exact if_neg (by decide)
set_option maxRecDepth 100000 in
set_option maxHeartbeats 400000 in
theorem c188a (E F : Nat) (k : Int) (w : World) (h1 : 1 ≤ E) (h2 : E ≤ 2046) (hF : F < 4503599627370496) (k1 : -5000 ≤ k) (k2 : k ≤ 5000) (c1 : k + ((E : Int) - 1023) < -1075) :
    Calls Tryz.prog 108 #[.float .f64 (nw E F), .int .i64 k] w fun e w' => e = .returned (.float .f64 (min (near (4503599627370496 + F) ((E : Int) - 1075 + k)) INF)) ∧ w = w' := by
  have hu := U_nw h2 hF
  have e0 : (FloatKind.f64.format.order (nw E F) 0 == some Ordering.eq) = false := by
    rw [f_eq _ _ hu U_0, pl_nw h2 hF, pl_0]
    have h3 : 4503599627370496 ≤ nw E F := by unfold nw; omega
    generalize nw E F = x at *
    simp [feqP, zk]; omega
  have ei := isI_nw h2 hF
  have en := isN_nw h2 hF
  have ex : ((nw E F : Nat) : Int) / 4503599627370496 = (E : Int) := by unfold nw; omega
  have ef := i64_field E (by omega)
  have ec := Lib.hid (c190 E F w h1 h2 hF)
  have eu := b_unfield E F h2 hF
  have hl := Lib.hid (nw_lt h2 hF)
  have hsg := sg_nw h2 hF
  have hv : min (near (4503599627370496 + F) ((E : Int) - 1075 + k)) INF = word false 0 := by
    have : near (4503599627370496 + F) ((E : Int) - 1075 + k) = 0 := by
      obtain ⟨n1, n2, n3⟩ := near_core (4503599627370496 + F) ((E : Int) - 1075 + k) (by omega) _ rfl
      rw [log2_53 F hF] at n1
      have a1 : max (((52 : Nat) : Int) + 1 + ((E : Int) - 1075 + k) - 53) (-1074) = -1074 := by omega
      rw [a1] at n1
      rw [n1, show ((-1074 : Int) + 1074).toNat = 0 from rfl, Nat.zero_mul, Nat.zero_add, show (((E : Int) - 1075 + k) - -1074).toNat = 0 by omega, Nat.pow_zero, Nat.mul_one]
      refine rhe_small _ _ ?_
      have : 2 ^ 54 ≤ 2 ^ ((-1074 : Int) - ((E : Int) - 1075 + k)).toNat := Nat.pow_le_pow_right (by omega) (by omega)
      generalize 2 ^ ((-1074 : Int) - ((E : Int) - 1075 + k)).toNat = t at *
      omega
    rw [this]; rfl
  rw [hv]
  have hz : rg 0 = 0 := rfl
  clear hv
  generalize nw E F = X at *
  go_enter Tryz.func108, Tryz.ntmps108
  go_wp2_with (first | (go_at_call 110; refine (c130 _ _ (by assumption)).mono ?_; rintro e w' ⟨rfl, rfl⟩) | (go_at_call 109; refine (c129 _ _ (by assumption)).mono ?_; rintro e w' ⟨rfl, rfl⟩) | (go_at_call 128; refine ec.out.mono ?_; rintro e w' ⟨rfl, rfl⟩) | (go_at_call 26; refine (c175 _ _ _ U_0 (by assumption)).mono ?_; rintro e w' ⟨rfl, rfl⟩))
  go_ret
  exact ⟨rfl, rfl⟩
set_option maxRecDepth 100000 in
set_option maxHeartbeats 400000 in
theorem c188b (E F : Nat) (k : Int) (w : World) (h1 : 1 ≤ E) (h2 : E ≤ 2046) (hF : F < 4503599627370496) (k1 : -5000 ≤ k) (k2 : k ≤ 5000) (c2 : 1023 < k + ((E : Int) - 1023)) :
    Calls Tryz.prog 108 #[.float .f64 (nw E F), .int .i64 k] w fun e w' => e = .returned (.float .f64 (min (near (4503599627370496 + F) ((E : Int) - 1075 + k)) INF)) ∧ w = w' := by
  have hu := U_nw h2 hF
  have e0 : (FloatKind.f64.format.order (nw E F) 0 == some Ordering.eq) = false := by
    rw [f_eq _ _ hu U_0, pl_nw h2 hF, pl_0]
    have h3 : 4503599627370496 ≤ nw E F := by unfold nw; omega
    generalize nw E F = x at *
    simp [feqP, zk]; omega
  have ei := isI_nw h2 hF
  have en := isN_nw h2 hF
  have ex : ((nw E F : Nat) : Int) / 4503599627370496 = (E : Int) := by unfold nw; omega
  have ef := i64_field E (by omega)
  have ec := Lib.hid (c190 E F w h1 h2 hF)
  have eu := b_unfield E F h2 hF
  have hl := Lib.hid (nw_lt h2 hF)
  have hsg := sg_nw h2 hF
  have hv : min (near (4503599627370496 + F) ((E : Int) - 1075 + k)) INF = 9218868437227405312 := by
    have : INF ≤ near (4503599627370496 + F) ((E : Int) - 1075 + k) := by
      obtain ⟨n1, n2, n3⟩ := near_core (4503599627370496 + F) ((E : Int) - 1075 + k) (by omega) _ rfl
      rw [log2_53 F hF] at n1 n3
      have a1 : max (((52 : Nat) : Int) + 1 + ((E : Int) - 1075 + k) - 53) (-1074) = (E : Int) - 1075 + k := by omega
      rw [a1] at n1 n3
      rw [n1]
      have e : 2046 ≤ ((E : Int) - 1075 + k + 1074).toNat := by omega
      have e2 : 2046 * 2 ^ 52 ≤ ((E : Int) - 1075 + k + 1074).toNat * 2 ^ 52 := Nat.mul_le_mul_right _ e
      have e3 := n3.resolve_left (by omega)
      rw [show INF = 2046 * 2 ^ 52 + 2 ^ 52 from by decide]
      exact Nat.add_le_add e2 e3
    rw [Nat.min_eq_right this]; rfl
  rw [hv]
  have e9 : (FloatKind.f64.format.order (nw E F) 0 == some Ordering.lt) = false := by
    rw [f_lt _ _ hu U_0, pl_nw h2 hF, pl_0]
    generalize nw E F = x at *
    simp [fltP, zk]; omega
  clear hv
  generalize nw E F = X at *
  go_enter Tryz.func108, Tryz.ntmps108
  go_wp2_with (first | (go_at_call 110; refine (c130 _ _ (by assumption)).mono ?_; rintro e w' ⟨rfl, rfl⟩) | (go_at_call 109; refine (c129 _ _ (by assumption)).mono ?_; rintro e w' ⟨rfl, rfl⟩) | (go_at_call 128; refine ec.out.mono ?_; rintro e w' ⟨rfl, rfl⟩) | (go_at_call 54; refine (c137p _).mono ?_; rintro e w' ⟨rfl, rfl⟩))
  go_ret
  exact ⟨rfl, rfl⟩
set_option maxRecDepth 100000 in
set_option maxHeartbeats 400000 in
theorem c188c (E F : Nat) (k : Int) (w : World) (h1 : 1 ≤ E) (h2 : E ≤ 2046) (hF : F < 4503599627370496) (k1 : -5000 ≤ k) (k2 : k ≤ 5000) (c1 : ¬ k + ((E : Int) - 1023) < -1075) (c3 : k + ((E : Int) - 1023) < -1022) :
    Calls Tryz.prog 108 #[.float .f64 (nw E F), .int .i64 k] w fun e w' => e = .returned (.float .f64 (min (near (4503599627370496 + F) ((E : Int) - 1075 + k)) INF)) ∧ w = w' := by
  have hu := U_nw h2 hF
  have e0 : (FloatKind.f64.format.order (nw E F) 0 == some Ordering.eq) = false := by
    rw [f_eq _ _ hu U_0, pl_nw h2 hF, pl_0]
    have h3 : 4503599627370496 ≤ nw E F := by unfold nw; omega
    generalize nw E F = x at *
    simp [feqP, zk]; omega
  have ei := isI_nw h2 hF
  have en := isN_nw h2 hF
  have ex : ((nw E F : Nat) : Int) / 4503599627370496 = (E : Int) := by unfold nw; omega
  have ef := i64_field E (by omega)
  have ec := Lib.hid (c190 E F w h1 h2 hF)
  have eu := b_unfield E F h2 hF
  have hl := Lib.hid (nw_lt h2 hF)
  have hsg := sg_nw h2 hF
  obtain ⟨e', he'⟩ : ∃ e' : Nat, (e' : Int) = k + ((E : Int) - 1023) + 53 + 1023 := ⟨(k + ((E : Int) - 1023) + 53 + 1023).toNat, by omega⟩
  have hf2 := b_field e' F (by omega) hF
  have hm := mul_by 4368491638549381120 (-105) read_2p53 e' F (by omega) (by omega) hF
  have hu2 := U_nw (E := e') (F := F) (by omega) hF
  have hrun := fun w => run_float_arith (P := Tryz.prog) w .mul 23 .f64 4368491638549381120 (nw e' F) _ hm
  have hfin : Ieee.double.nearest false (4503599627370496 + F) ((e' : Int) - 1075 + -105 + 52) = min (near (4503599627370496 + F) ((E : Int) - 1075 + k)) INF := by
    rw [near_word]; congr 2; omega
  rw [hfin] at hrun
  rw [he'] at hf2
  clear hm he' hfin
  generalize nw E F = X at *
  generalize nw e' F = Y at *
  generalize min (near (4503599627370496 + F) ((E : Int) - 1075 + k)) INF = Z at *
  go_enter Tryz.func108, Tryz.ntmps108
  go_wp2_with (first | (go_at_call 110; refine (c130 _ _ (by assumption)).mono ?_; rintro e w' ⟨rfl, rfl⟩) | (go_at_call 109; refine (c129 _ _ (by assumption)).mono ?_; rintro e w' ⟨rfl, rfl⟩) | (go_at_call 128; refine ec.out.mono ?_; rintro e w' ⟨rfl, rfl⟩))
  go_ret
  exact ⟨rfl, rfl⟩
set_option maxRecDepth 100000 in
set_option maxHeartbeats 400000 in
theorem c188d (E F : Nat) (k : Int) (w : World) (h1 : 1 ≤ E) (h2 : E ≤ 2046) (hF : F < 4503599627370496) (k1 : -5000 ≤ k) (k2 : k ≤ 5000) (c2 : ¬ 1023 < k + ((E : Int) - 1023)) (c3 : ¬ k + ((E : Int) - 1023) < -1022) :
    Calls Tryz.prog 108 #[.float .f64 (nw E F), .int .i64 k] w fun e w' => e = .returned (.float .f64 (min (near (4503599627370496 + F) ((E : Int) - 1075 + k)) INF)) ∧ w = w' := by
  have hu := U_nw h2 hF
  have e0 : (FloatKind.f64.format.order (nw E F) 0 == some Ordering.eq) = false := by
    rw [f_eq _ _ hu U_0, pl_nw h2 hF, pl_0]
    have h3 : 4503599627370496 ≤ nw E F := by unfold nw; omega
    generalize nw E F = x at *
    simp [feqP, zk]; omega
  have ei := isI_nw h2 hF
  have en := isN_nw h2 hF
  have ex : ((nw E F : Nat) : Int) / 4503599627370496 = (E : Int) := by unfold nw; omega
  have ef := i64_field E (by omega)
  have ec := Lib.hid (c190 E F w h1 h2 hF)
  have eu := b_unfield E F h2 hF
  have hl := Lib.hid (nw_lt h2 hF)
  have hsg := sg_nw h2 hF
  obtain ⟨e', he'⟩ : ∃ e' : Nat, (e' : Int) = k + ((E : Int) - 1023) + 1023 := ⟨(k + ((E : Int) - 1023) + 1023).toNat, by omega⟩
  have hf2 := b_field e' F (by omega) hF
  have hm := mul_by 4607182418800017408 (-52) read_1 e' F (by omega) (by omega) hF
  have hu2 := U_nw (E := e') (F := F) (by omega) hF
  have hrun := fun w => run_float_arith (P := Tryz.prog) w .mul 23 .f64 4607182418800017408 (nw e' F) _ hm
  have hfin : Ieee.double.nearest false (4503599627370496 + F) ((e' : Int) - 1075 + -52 + 52) = min (near (4503599627370496 + F) ((E : Int) - 1075 + k)) INF := by
    rw [near_word]; congr 2; omega
  rw [hfin] at hrun
  rw [he'] at hf2
  clear hm he' hfin
  generalize nw E F = X at *
  generalize nw e' F = Y at *
  generalize min (near (4503599627370496 + F) ((E : Int) - 1075 + k)) INF = Z at *
  go_enter Tryz.func108, Tryz.ntmps108
  go_wp2_with (first | (go_at_call 110; refine (c130 _ _ (by assumption)).mono ?_; rintro e w' ⟨rfl, rfl⟩) | (go_at_call 109; refine (c129 _ _ (by assumption)).mono ?_; rintro e w' ⟨rfl, rfl⟩) | (go_at_call 128; refine ec.out.mono ?_; rintro e w' ⟨rfl, rfl⟩))
  go_ret
  exact ⟨rfl, rfl⟩
theorem c188 (E F : Nat) (k : Int) (w : World) (h1 : 1 ≤ E) (h2 : E ≤ 2046) (hF : F < 4503599627370496) (k1 : -5000 ≤ k) (k2 : k ≤ 5000) : Calls Tryz.prog 108 #[.float .f64 (nw E F), .int .i64 k] w fun e w' => e = .returned (.float .f64 (min (near (4503599627370496 + F) ((E : Int) - 1075 + k)) INF)) ∧ w = w' := by
  by_cases c1 : k + ((E : Int) - 1023) < -1075
  · exact c188a E F k w h1 h2 hF k1 k2 c1
  by_cases c2 : 1023 < k + ((E : Int) - 1023)
  · exact c188b E F k w h1 h2 hF k1 k2 c2
  by_cases c3 : k + ((E : Int) - 1023) < -1022
  · exact c188c E F k w h1 h2 hF k1 k2 c1 c3
  · exact c188d E F k w h1 h2 hF k1 k2 c2 c3
theorem near_scale (M j : Nat) (p : Int) : near (M * 2 ^ j) p = near M (p + j) := by
  unfold near
  rcases Int.le_total (-1074) p with h | h
  · rw [show (-1074 - p).toNat = 0 by omega, show (-1074 - (p + (j : Int))).toNat = 0 by omega, Nat.mul_assoc, ← Nat.pow_add]
    congr 3; omega
  · rw [show (p + 1074).toNat = 0 by omega, Nat.pow_zero, Nat.mul_one]
    rcases Int.le_total (-1074) (p + j) with h' | h'
    · rw [show (-1074 - (p + (j : Int))).toNat = 0 by omega]
      have e : j = (p + (j : Int) + 1074).toNat + (-1074 - p).toNat := by omega
      generalize ha : (p + (j : Int) + 1074).toNat = a at *
      generalize hb : (-1074 - p).toNat = b at *
      rw [e, Nat.pow_add, ← Nat.mul_assoc]
      have := rungOf_scale 52 (M * 2 ^ a) 0 b
      rw [Nat.zero_add] at this
      exact this
    · rw [show (p + (j : Int) + 1074).toNat = 0 by omega, Nat.pow_zero, Nat.mul_one]
      rw [show (-1074 - p).toNat = (-1074 - (p + (j : Int))).toNat + j by omega]
      exact rungOf_scale 52 M _ j
/-- The word of a whole number. -/
def fi (n : Nat) : Nat := rnd (n * ONE)
theorem fi_eq (n : Nat) : floatOfInt .f64 (n : Int) = fi n := by
  have : floatOfInt .f64 (n : Int) = Ieee.double.nearest false n 0 := by
    show Ieee.double.write (.number (decide ((n : Int) < 0)) (n : Int).natAbs 0) = _
    rw [show decide ((n : Int) < 0) = false from decide_eq_false (by omega), Int.natAbs_natCast]
    rfl
  rw [this, nearest_int]
  unfold word fi
  exact if_neg (by decide)
theorem val_top : Fl.val 52 (1076 * 4503599627370496) = 9007199254740992 * ONE := by
  have hd : (1076 * 4503599627370496) / 2 ^ 52 - 1 = K + 1 := by decide
  have hm : 2 ^ 52 + (1076 * 4503599627370496) % 2 ^ 52 = 4503599627370496 := by decide
  unfold Fl.val
  rw [if_neg (by decide), hd, hm, Nat.pow_succ, ← one_pow]
  omega
/-- A whole number up to 2^53 is a word's value. -/
theorem fi_val (n : Nat) (h : n ≤ 9007199254740992) : Fl.val 52 (fi n) = n * ONE ∧ fi n ≤ 1076 * 4503599627370496 := by
  have h1 : Fl.val 52 (rungOf 52 (n * ONE) 0) = n * ONE := by
    rw [one_pow]
    refine val_rungOf_small 52 n K ?_
    rw [B52]; omega
  have h2 : rungOf 52 (n * ONE) 0 ≤ 1076 * 4503599627370496 := by
    have := rungOf_mono 52 (n * ONE) (9007199254740992 * ONE) 0 (Nat.mul_le_mul_right _ h)
    rw [← val_top, rungOf_val] at this
    exact this
  have h3 : fi n = rungOf 52 (n * ONE) 0 := by unfold fi rnd INF; omega
  rw [h3]; exact ⟨h1, h2⟩
theorem fi_parts (n : Nat) (h0 : 0 < n) (h : n ≤ 9007199254740992) : ∃ E F : Nat, 1 ≤ E ∧ E ≤ 1076 ∧ F < 4503599627370496 ∧ fi n = nw E F ∧ (4503599627370496 + F) * 2 ^ (E - 1) = n * 2 ^ K := by
  obtain ⟨h1, h2⟩ := fi_val n h
  have hge : 4503599627370496 ≤ fi n := by
    rcases Nat.lt_or_ge (fi n) 4503599627370496 with c | c
    · rw [val_small 52 _ (by rw [B52]; omega)] at h1
      have : 4503599627370496 ≤ ONE := by
        rw [one_pow, ← B52]; exact Nat.pow_le_pow_right (by omega) (by decide)
      have : ONE ≤ n * ONE := Nat.le_mul_of_pos_left _ h0
      omega
    · exact c
  refine ⟨fi n / 4503599627370496, fi n % 4503599627370496, by omega, by omega, by omega, by unfold nw; omega, ?_⟩
  rw [← one_pow, ← h1]
  unfold Fl.val
  rw [if_neg (by rw [B52]; omega), B52]
theorem near_fi (n : Nat) (k : Int) (E F : Nat) (h1 : 1 ≤ E) (e : (4503599627370496 + F) * 2 ^ (E - 1) = n * 2 ^ K) : near (4503599627370496 + F) ((E : Int) - 1075 + k) = near n k := by
  have a := near_scale (4503599627370496 + F) (E - 1) ((E : Int) - 1075 + k - ((E - 1 : Nat) : Int))
  have b := near_scale n K ((E : Int) - 1075 + k - ((E - 1 : Nat) : Int))
  rw [e] at a
  rw [b] at a
  have hK : (K : Int) = 1074 := rfl
  rw [show (E : Int) - 1075 + k - ((E - 1 : Nat) : Int) + (((E - 1 : Nat) : Nat) : Int) = (E : Int) - 1075 + k by omega, show (E : Int) - 1075 + k - ((E - 1 : Nat) : Int) + (K : Int) = k by omega] at a
  exact a.symm
set_option maxRecDepth 100000 in
theorem c188z (k : Int) (w : World) : Calls Tryz.prog 108 #[.float .f64 0, .int .i64 k] w fun e w' => e = .returned (.float .f64 0) ∧ w = w' := by
  have e0 : (FloatKind.f64.format.order 0 0 == some Ordering.eq) = true := by decide
  go_enter Tryz.func108, Tryz.ntmps108
  go_wp2
  go_ret
  exact ⟨rfl, rfl⟩
theorem c188i (n : Nat) (k : Int) (w : World) (h : n ≤ 9007199254740992) (k1 : -5000 ≤ k) (k2 : k ≤ 5000) :
    Calls Tryz.prog 108 #[.float .f64 (fi n), .int .i64 k] w fun e w' => e = .returned (.float .f64 (min (near n k) INF)) ∧ w = w' := by
  rcases Nat.eq_zero_or_pos n with c | c
  · subst c
    have e1 : fi 0 = 0 := by unfold fi; rw [Nat.zero_mul, rnd_zero]
    have e2 : min (near 0 k) INF = 0 := by rw [near_zero]; exact Nat.zero_min _
    rw [e1, e2]
    exact c188z k w
  · obtain ⟨E, F, h1, h2, hF, e, hv⟩ := fi_parts n c h
    have := c188 E F k w h1 (by omega) hF k1 k2
    rw [near_fi n k E F h1 hv] at this
    rw [e]; exact this
set_option maxRecDepth 100000 in
/-- Ldexp of a whole number up to 2^53. -/
theorem c177 (n : Nat) (k : Int) (w : World) (h : n ≤ 9007199254740992) (k1 : -5000 ≤ k) (k2 : k ≤ 5000) :
    Calls Tryz.prog 70 #[.float .f64 (fi n), .int .i64 k] w fun e w' => e = .returned (.float .f64 (min (near n k) INF)) ∧ w = w' := by
  have H := Lib.hid (c188i n k w h k1 k2)
  clear h k1 k2
  go_enter Tryz.func70, Tryz.ntmps70
  go_wp2_with (go_at_call 108; refine H.out.mono ?_; rintro e w' ⟨rfl, rfl⟩)
  go_ret
  exact ⟨rfl, rfl⟩
end Go.Proofs.YtjkifbkehochoaaGreatDoor

namespace Go.Proofs.YtjkifbkehochoaaGreatDoor
open Go.RowKit Fl
def eM (x : Nat) : Nat := x / 4503599627370496 % 2048
def fM (x : Nat) : Nat := x % 4503599627370496
def pNeg (x : Nat) : Bool := if eM x = 2047 ∧ fM x ≠ 0 then false else sg x
def pCls (x : Nat) : Int := if eM x = 2047 then (if fM x = 0 then 3 else 4) else if eM x = 0 then (if fM x = 0 then 0 else 1) else 2
def pMant (x : Nat) : Nat := if eM x = 2047 then 0 else if eM x = 0 then fM x else 4503599627370496 + fM x
def pExp (x : Nat) : Int := if eM x = 2047 then 0 else if eM x = 0 then (if fM x = 0 then 0 else -1074) else (eM x : Int) - 1075
def partsV (x : Nat) : Value := .agg #[.bool (pNeg x), .int .i64 (pCls x), .int .u64 (pMant x), .int .i64 (pExp x)]
theorem b_or52 (m : Nat) (h : m < 4503599627370496) : bits .or .u64 (m : Int) 4503599627370496 = 4503599627370496 + (m : Int) := by
  rw [show (4503599627370496 : Int) = ((4503599627370496 : Nat) : Int) from rfl, u64_or_nat _ _ (by omega) (by omega)]
  rw [Nat.or_comm, show (4503599627370496 : Nat) ||| m = 4503599627370496 + m from nat_join 52 (2 ^ 52) m (by decide) h]
  omega
theorem sgn_ne (x : Nat) (h : U x) : (bits .and .u64 (x : Int) 9223372036854775808 != 0) = sg x := by
  rw [b_sign x h]; cases sg x <;> rfl
set_option maxRecDepth 100000 in
set_option maxHeartbeats 1000000 in
theorem c30 (x : Nat) (w : World) (hx : U x) : Calls Tryz.prog 29 #[.float .f64 x] w fun e w' => e = .returned (partsV x) ∧ Below w.heap.size w w' := by
  have h1 := sgn_ne x hx
  have h2 := b_frac x hx
  have h3 := b_exp x hx
  have hm : fM x < 4503599627370496 := Nat.mod_lt _ (by decide)
  have he : eM x < 2048 := Nat.mod_lt _ (by decide)
  have h4 := b_or52 (fM x) hm
  have h5 : wrap64 (eM x : Int) = (eM x : Int) := by unfold wrap64; omega
  change bits .and .u64 (x : Int) 4503599627370495 = (fM x : Int) at h2
  change bits .and .u64 ((x : Int) / 4503599627370496) 2047 = (eM x : Int) at h3
  unfold partsV pNeg pCls pMant pExp
  generalize eM x = E at *
  generalize fM x = M at *
  generalize sg x = S at *
  have B1 : ∀ (w : World) (o : Obj), Below w.heap.size w (w.alloc o) := fun w o => (Below.refl _ _).alloc (Nat.le_refl _) _
  have B2 : ∀ (w : World) (o o' : Obj), Below w.heap.size w ((w.alloc o).alloc o') := fun w o o' => ((Below.refl _ _).alloc (Nat.le_refl _) _).alloc (by simp) _
  by_cases cE : E = 2047
  · subst cE
    by_cases cM : M = 0
    · subst cM
      go_enter Tryz.func29, Tryz.ntmps29
      go_wp2
      exact bodyPost_ret (v := .agg #[.bool S, .int .i64 3, .int .u64 0, .int .i64 0]) (by simp [results, Tryz.results29, go_sem]) rfl ⟨rfl, B2 _ _ _⟩
    · have d1 : ((M : Int) != 0) = true := by simp; omega
      simp only [cM, if_true, if_false, ne_eq, not_false_iff, and_self]
      go_enter Tryz.func29, Tryz.ntmps29
      go_wp2
      exact bodyPost_ret (v := .agg #[.bool false, .int .i64 4, .int .u64 0, .int .i64 0]) (by simp [results, Tryz.results29, go_sem]) rfl ⟨rfl, B2 _ _ _⟩
  · have d0 : ((E : Int) == 2047) = false := by simp; omega
    simp only [cE, if_false, false_and]
    by_cases cE0 : E = 0
    · subst cE0
      by_cases cM : M = 0
      · subst cM
        go_enter Tryz.func29, Tryz.ntmps29
        go_wp2
        exact bodyPost_ret (v := .agg #[.bool S, .int .i64 0, .int .u64 0, .int .i64 0]) (by simp [results, Tryz.results29, go_sem]) rfl ⟨rfl, B2 _ _ _⟩
      · have d1 : ((M : Int) == 0) = false := by simp; omega
        simp only [cM, if_true, if_false]
        go_enter Tryz.func29, Tryz.ntmps29
        go_wp2
        exact bodyPost_ret (v := .agg #[.bool S, .int .i64 1, .int .u64 M, .int .i64 (-1074)]) (by simp [results, Tryz.results29, go_sem]) rfl ⟨rfl, B2 _ _ _⟩
    · have d1 : ((E : Int) == 0) = false := by simp; omega
      simp only [cE0, if_false]
      go_enter Tryz.func29, Tryz.ntmps29
      go_wp2
      exact bodyPost_ret (v := .agg #[.bool S, .int .i64 2, .int .u64 (4503599627370496 + (M : Int)), .int .i64 ((E : Int) - 1075)]) (by simp [results, Tryz.results29, go_sem]) rfl ⟨by simp, B2 _ _ _⟩
end Go.Proofs.YtjkifbkehochoaaGreatDoor
