/- What / leaves of two finite numbers: the rung nearest to the quotient. Plain laws. Parts of a whole: what a quotient of small whole numbers leaves, and how it is told again. Plain laws. What + - * / leave lies between bounds that are numbers. Plain laws. The assembly's logarithm: its result is no great number. The logarithm to ten, cut down, as an int: no great number. Steps of a number from 0 to 1: which part of the whole they tell. Plain laws. What steps tell of a number: by places; of a number from 0 to 1, by parts of the whole. Plain laws. -/
import Derived.Test.YtlgencbldbpbdaaGreatDoorMgFl
import Derived.Test.YtlgencbldbpbdaaGreatDoorMgArith
namespace Go.Proofs.YtlgencbldbpbdaaGreatDoor
open Go.RowKit Fl
theorem rungQ_up' (a b L n d : Nat) (hb : 0 < b) (hq : 2 ^ 53 ≤ a * 2 ^ n / b) (hd : d = max ((a * 2 ^ n / b).log2 - 52) (n - L)) (hd0 : 0 < d) :
  rungQ (a * 2 ^ L) b = (L + d - n) * 2 ^ 52 + rhe (a * 2 ^ n) (b * 2 ^ d) := by
 have h4 : a * 2 ^ n / b * 4 ≤ a * 2 ^ (n + 2) / b := by
  rw [Nat.le_div_iff_mul_le hb, Nat.pow_add, ← Nat.mul_assoc, Nat.mul_right_comm]
  exact Nat.mul_le_mul_right 4 (Nat.div_mul_le_self _ _)
 have e55 : (2 : Nat) ^ 55 = 2 ^ 53 * 4 := by decide
 have h0 : 0 < a * 2 ^ n / b := Nat.lt_of_lt_of_le (Nat.two_pow_pos 53) hq
 have hl : (a * 2 ^ (n + 2) / b).log2 = (a * 2 ^ n / b).log2 + 2 := by
  rw [Nat.pow_add, ← Nat.mul_assoc]
  exact log2_quo_up _ _ 2 hb h0
 have hlg := (Nat.le_log2 (Nat.pos_iff_ne_zero.1 h0) (k := 53)).2 hq
 have := rungQ_up a b L (n + 2) (d + 2) hb (by omega) (by rw [hl]; omega) (by omega)
 rw [this, Nat.pow_add 2 n, Nat.pow_add 2 d, ← Nat.mul_assoc, ← Nat.mul_assoc, rhe_mul _ _ _ (by decide), show L + (d + 2) - (n + 2) = L + d - n by omega]
theorem rhe_sticky (a b D : Nat) (hb : 0 < b) (hD : 0 < D) : rhe (2 * (a / b) + (a % b != 0).toNat) (2 * (2 * D)) = rhe a (b * (2 * D)) := by
 rw [rhe_cut a b D hb hD]
 have h1 := rhe_cut (2 * (a / b) + (a % b != 0).toNat) 1 (2 * D) (by decide) (by omega)
 rw [Nat.one_mul, Nat.div_one, Nat.mod_one] at h1
 rw [h1]
 generalize a / b = q
 obtain ⟨t, ht, hr⟩ : ∃ t, t = (a % b != 0).toNat ∧ ((a % b ≠ 0 ∧ t = 1) ∨ (a % b = 0 ∧ t = 0)) := by
  refine ⟨_, rfl, ?_⟩
  by_cases h : a % b = 0
  ·right; rw [h]; exact ⟨rfl, rfl⟩
  ·left; exact ⟨h, by rw [bne_iff_ne.2 h]; rfl⟩
 rw [← ht]
 generalize a % b = r at hr ⊢
 have e1 : (2 * q + t) / (2 * D) = q / D := by
  rw [← Nat.div_div_eq_div_mul]
  congr 1
  omega
 have e2 : (2 * q + t) / (2 * (2 * D)) = q / (2 * D) := by
  rw [← Nat.div_div_eq_div_mul]
  congr 1
  omega
 have e3 : (2 * q + t) % (2 * D) = t + 2 * (q % D) := by
  rw [Nat.mod_mul]
  have a1 : (2 * q + t) % 2 = t := by omega
  have a2 : (2 * q + t) / 2 = q := by omega
  rw [a1, a2]
 rw [e1, e2, e3]
 congr 1
 have : (0 ≠ 0 ∨ t + 2 * (q % D) ≠ 0 ∨ q / (2 * D) % 2 = 1) ↔ (r ≠ 0 ∨ q % D ≠ 0 ∨ q / (2 * D) % 2 = 1) := by omega
 simp only [this]
theorem read_fin_low (b : Nat) (h : b < 18446744073709551616) (hf : fin b = true) :
  ∃ m j : Nat, Ieee.double.read b = .number (sg b) m (-1074 + (j : Int)) ∧ m * 2 ^ j = Fl.val 52 (rg b) ∧ m < 9007199254740992 ∧ (j = 0 ∨ 4503599627370496 ≤ m) := by
 have hf := fin_true hf
 rw [read_eq b h]
 by_cases c : rg b < 4503599627370496
 ·refine ⟨rg b, 0, by rw [if_pos c]; rfl, ?_, by omega, .inl rfl⟩
  rw [val_small 52 _ (by omega)]; simp
 ·refine ⟨_, _, by rw [if_neg c, if_pos hf], ?_, by omega, .inr (by omega)⟩
  unfold Fl.val
  rw [if_neg (by omega)]
theorem rungM_zero {B : Nat} : rungM 0 B = 0 := by
 unfold rungM rungQ
 rw [Nat.zero_div, rhe_zero]
 rfl
theorem div_gen (a b : Nat) (ha : U a) (hb : U b) (fa : fin a = true) (fb : fin b = true) (h0 : 0 < Fl.val 52 (rg b)) (hj : Fl.val 52 (rg b) < 4503599627370496 * 2 ^ (K + 1)) :
  floatBits .quo .f64 a b = some (word (sg a ^^ sg b) (rungM (Fl.val 52 (rg a) * 2 ^ K) (Fl.val 52 (rg b)))) := by
 show Ieee.double.div a b = some _
 obtain ⟨m, i, ea, va, hm⟩ := read_fin53 a ha fa
 obtain ⟨n, j, eb, vb, hn3, hn2⟩ := read_fin_low b hb fb
 rw [← vb] at h0 hj
 have hn : n ≠ 0 := by
  rintro rfl
  rw [Nat.zero_mul] at h0
  exact Nat.lt_irrefl 0 h0
 have jK : j ≤ K := by
  rcases hn2 with h | h
  ·omega
  ·rcases Nat.lt_or_ge K j with h2 | h2
   ·have a1 : 2 ^ (K + 1) ≤ 2 ^ j := Nat.pow_le_pow_right (by decide) h2
    have a2 := Nat.mul_le_mul h a1
    exact absurd hj (Nat.not_lt.2 a2)
   ·exact h2
 have hml : m.log2 ≤ 53 := by
  rcases Nat.eq_zero_or_pos m with e | e
  ·rw [e]; decide
  ·have := (Nat.log2_lt (n := m) (k := 53) (by omega)).2 (by omega)
   omega
 unfold Ieee.Format.div
 rw [ea, eb, d_fb]
 simp only [Ieee.Datum.quotient, if_neg hn, Option.map_some]
 refine congrArg some ?_
 show Ieee.double.nearest _ _ _ = _
 rw [Nat.shiftLeft_eq, ← va, ← vb]
 by_cases hm0 : m = 0
 ·subst hm0
  rw [Nat.zero_mul, Nat.zero_mul, Nat.zero_mul, Nat.zero_div, Nat.zero_mod, rungM_zero]
  show Ieee.double.nearest _ 0 _ = _
  unfold Ieee.Format.nearest
  rw [if_pos rfl, word_eq]
 obtain ⟨t, ht⟩ : ∃ t, t = 52 + 2 + n.log2 - m.log2 := ⟨_, rfl⟩
 rw [← ht]
 have hq : 2 ^ 53 ≤ m * 2 ^ t / n := by
  rw [Nat.le_div_iff_mul_le (by omega)]
  have l1 := Nat.log2_self_le hm0
  have l2 := Nat.lt_log2_self (n := n)
  have l3 : 2 ^ m.log2 * 2 ^ t = 2 ^ 53 * 2 ^ (n.log2 + 1) := by rw [← Nat.pow_add, ← Nat.pow_add]; congr 1; omega
  have l4 := Nat.mul_le_mul_right (2 ^ t) l1
  have l5 := Nat.mul_le_mul_left (2 ^ 53) (Nat.le_of_lt l2)
  omega
 obtain ⟨L, hL⟩ : ∃ L, L = K + i - j := ⟨_, rfl⟩
 obtain ⟨d, hd⟩ : ∃ d, d + 1 = max ((m * 2 ^ t / n).log2 - 52) (t - L) := ⟨max ((m * 2 ^ t / n).log2 - 52) (t - L) - 1, by
  have h0 : m * 2 ^ t / n ≠ 0 := by have := Nat.two_pow_pos 53; omega
  have := (Nat.le_log2 h0 (k := 53)).2 hq
  omega⟩
 have hA : rungM (m * 2 ^ i * 2 ^ K) (n * 2 ^ j) = min ((L + (d + 1) - t) * 2 ^ 52 + rhe (m * 2 ^ t) (n * 2 ^ (d + 1))) INF := by
  have e1 : m * 2 ^ i * 2 ^ K = m * 2 ^ L * 2 ^ j := by
   rw [Nat.mul_assoc, ← Nat.pow_add, Nat.mul_assoc, ← Nat.pow_add]
   congr 2
   omega
  rw [e1, rungM_scale _ _ _ (Nat.two_pow_pos j)]
  unfold rungM
  rw [rungQ_up' m n L t (d + 1) (by omega) hq hd (by omega)]
 rw [hA, Nat.pow_succ 2 d, Nat.mul_comm (2 ^ d) 2, ← rhe_sticky (m * 2 ^ t) n (2 ^ d) (by omega) (Nat.two_pow_pos d)]
 obtain ⟨q, hqq⟩ : ∃ q, q = m * 2 ^ t / n := ⟨_, rfl⟩
 rw [← hqq] at hq hd ⊢
 obtain ⟨M, hM⟩ : ∃ M, M = 2 * q + (m * 2 ^ t % n != 0).toNat := ⟨_, rfl⟩
 rw [← hM]
 have q0 : q ≠ 0 := by have := Nat.two_pow_pos 53; omega
 have hMl : M.log2 = q.log2 + 1 := by
  have b1 : (m * 2 ^ t % n != 0).toNat ≤ 1 := Bool.toNat_le _
  have l1 := Nat.log2_self_le q0
  have l2 := Nat.lt_log2_self (n := q)
  refine log2_eq _ _ ?_ ?_
  ·rw [Nat.pow_succ]; omega
  ·rw [Nat.pow_succ]; omega
 have M0 : M ≠ 0 := by rw [hM]; omega
 have hlg := (Nat.le_log2 q0 (k := 53)).2 hq
 rw [nearest_eq, word_eq, d_fb, d_inf, d_least]
 refine congrArg (fun z => word _ (min z INF)) ?_
 rw [show 2 * (2 * 2 ^ d) = 2 ^ (d + 2) by rw [Nat.pow_succ, Nat.pow_succ]; omega]
 rw [K_eq] at jK hL
 by_cases c : t + 1 ≤ L
 ·rw [show ((-1074 : Int) + (i : Int) - (-1074 + (j : Int)) - (t : Int) - 1 - -1074).toNat = L - (t + 1) by omega, show ((-1074 : Int) - (-1074 + (i : Int) - (-1074 + (j : Int)) - (t : Int) - 1)).toNat = 0 by omega]
  unfold rungOf
  rw [log2_mul_pow _ _ M0, hMl]
  rw [show q.log2 + 1 + (L - (t + 1)) - 52 - 0 = L + (d + 1) - t by omega, show 0 + (L + (d + 1) - t) = d + 2 + (L - (t + 1)) by omega, Nat.pow_add, rhe_mul _ _ _ (Nat.two_pow_pos _)]
 ·rw [show ((-1074 : Int) + (i : Int) - (-1074 + (j : Int)) - (t : Int) - 1 - -1074).toNat = 0 by omega, show ((-1074 : Int) - (-1074 + (i : Int) - (-1074 + (j : Int)) - (t : Int) - 1)).toNat = t + 1 - L by omega, Nat.pow_zero, Nat.mul_one]
  unfold rungOf
  rw [hMl]
  rw [show q.log2 + 1 - 52 - (t + 1 - L) = L + (d + 1) - t by omega, show t + 1 - L + (L + (d + 1) - t) = d + 2 by omega]
end Go.Proofs.YtlgencbldbpbdaaGreatDoor
namespace Go.Proofs.YtlgencbldbpbdaaGreatDoor
open Go.RowKit Fl
def KT : Nat := 2046
theorem V_INF : V INF = 2 ^ 52 * 2 ^ KT := by
 unfold V
 rw [val_parts]
 have e1 : pM INF = 2 ^ 52 := by decide
 have e2 : pE INF = KT := by decide
 rw [e1, e2]
theorem near_step (A B E : Nat) (hB : 0 < B) (hE : E ≤ 1900) (h : A < 2 ^ 53 * 2 ^ E * B) :
  V (rungM A B) * B ≤ A + 2 ^ E * B ∧ A ≤ V (rungM A B) * B + 2 ^ E * B ∧ rungM A B < INF := by
 obtain ⟨L, l1, l2, l3, e⟩ := near_at A B hB
 have hlt : V L < 2 ^ 53 * 2 ^ E := Nat.lt_of_mul_lt_mul_right (Nat.lt_of_le_of_lt l2 h)
 have hp : pE L ≤ E := by
  rcases Nat.lt_or_ge E (pE L) with c | c
  ·exfalso
   have hm : 2 ^ 52 ≤ pM L := by
    rcases (parts_back L).2 with h0 | h0
    ·omega
    ·exact h0
   have e1 : V L = pM L * 2 ^ pE L := val_parts L
   have a1 : 2 ^ (E + 1) ≤ 2 ^ pE L := Nat.pow_le_pow_right (by decide) c
   have a2 := Nat.mul_le_mul hm a1
   have a3 : 2 ^ 52 * 2 ^ (E + 1) = 2 ^ 53 * 2 ^ E := by rw [← Nat.pow_add, ← Nat.pow_add]; congr 1; omega
   rw [a3, ← e1] at a2
   exact absurd hlt (Nat.not_lt.2 a2)
  ·exact c
 have hs := Nat.pow_le_pow_right (n := 2) (by decide) hp
 have hV := V_next L
 have l3' : A < V (L + 1) * B := by
  rcases l3 with c | c
  ·exact c
  ·rw [c, V_INF]
   refine Nat.lt_of_lt_of_le h (Nat.mul_le_mul_right B ?_)
   rw [← Nat.pow_add, ← Nat.pow_add]
   exact Nat.pow_le_pow_right (by decide) (by unfold KT; omega)
 have hL1 : L + 1 < INF := by
  rcases Nat.lt_or_ge (L + 1) INF with c | c
  ·exact c
  ·exfalso
   have e1 : L + 1 = INF := by omega
   have e2 : V L + 2 ^ pE L = 2 ^ 52 * 2 ^ KT := by rw [← hV, e1, V_INF]
   have a3 : 2 ^ 53 * 2 ^ E + 2 ^ E ≤ 2 ^ 54 * 2 ^ E := by
    rw [show (2 : Nat) ^ 54 = 2 ^ 53 + 2 ^ 53 by decide, Nat.add_mul]
    have : 1 * 2 ^ E ≤ 2 ^ 53 * 2 ^ E := Nat.mul_le_mul_right _ (by decide)
    omega
   have a4 : 2 ^ 54 * 2 ^ E ≤ 2 ^ 52 * 2 ^ KT := by
    rw [← Nat.pow_add, ← Nat.pow_add]
    exact Nat.pow_le_pow_right (by decide) (by unfold KT; omega)
   omega
 have hsB : (V L + 2 ^ pE L) * B ≤ V L * B + 2 ^ E * B := by
  rw [Nat.add_mul]
  have := Nat.mul_le_mul_right B hs
  omega
 rw [hV] at l3'
 rw [e]
 split
 ·rw [hV]
  exact ⟨by omega, by have : V L * B ≤ (V L + 2 ^ pE L) * B := Nat.mul_le_mul_right _ (Nat.le_add_right _ _)
                      omega, hL1⟩
 ·exact ⟨by rw [Nat.add_zero]; omega, by rw [Nat.add_zero]; omega, by omega⟩
theorem rungM_one (A : Nat) : rungM A 1 = rnd A := by
 unfold rungM rungQ rnd rungOf
 rw [Nat.div_one, Nat.one_mul, Nat.sub_zero, Nat.zero_add]
def qR (s m : Nat) : Nat := rungM (s * ONE) m
def KA : Nat := 1053
def KB : Nat := 21
theorem ka_kb : ONE = 2 ^ KB * 2 ^ KA := by rw [one_pow, ← Nat.pow_add, show KB + KA = K from rfl]
theorem kb : 2 ^ KB = 2097152 := by decide
theorem parts_back_near (s m : Nat) (h0 : 0 < m) (hm : m ≤ 1073741824) (hs : s ≤ m) :
  qR s m < INF ∧ rnd (V (qR s m) * m) < INF ∧ V (rnd (V (qR s m) * m)) ≤ s * ONE + 4096 * 2 ^ KA ∧ s * ONE ≤ V (rnd (V (qR s m) * m)) + 4096 * 2 ^ KA := by
 have hp : 0 < 2 ^ KA := Nat.two_pow_pos _
 have h53 : (2 : Nat) ^ 53 = 9007199254740992 := by decide
 obtain ⟨E, hE⟩ : ∃ E, KA = E + 30 := ⟨1023, rfl⟩
 have e30 : 2 ^ KA = 2 ^ E * 1073741824 := by rw [hE, Nat.pow_add]
 have hKA : KA = 1053 := rfl
 obtain ⟨a1, a2, a3⟩ := near_step (s * ONE) m E h0 (by omega) (by
  rw [ka_kb, kb, h53, e30]
  have hpe : 0 < 2 ^ E := Nat.two_pow_pos _
  have c1 : s * (2097152 * (2 ^ E * 1073741824)) ≤ m * (2097152 * (2 ^ E * 1073741824)) := Nat.mul_le_mul_right _ hs
  have c2 : m * (2097152 * (2 ^ E * 1073741824)) = 2251799813685248 * (2 ^ E * m) := by
   rw [show 2097152 * (2 ^ E * 1073741824) = 2251799813685248 * 2 ^ E by omega, Nat.mul_left_comm, Nat.mul_comm m]
  have c3 : 9007199254740992 * 2 ^ E * m = 9007199254740992 * (2 ^ E * m) := Nat.mul_assoc _ _ _
  have c4 : 0 < 2 ^ E * m := Nat.mul_pos hpe h0
  omega)
 have e1 : 2 ^ E * m ≤ 2 ^ KA := by rw [e30]; exact Nat.mul_le_mul_left _ hm
 have hb : s * ONE ≤ 1073741824 * ONE := Nat.mul_le_mul_right _ (by omega)
 have hO : ONE = 2097152 * 2 ^ KA := by rw [ka_kb, kb]
 obtain ⟨b1, b2, b3⟩ := near_step (V (qR s m) * m) 1 KA (by decide) (by decide) (by
  rw [h53, Nat.mul_one]
  unfold qR
  omega)
 rw [rungM_one, Nat.mul_one, Nat.mul_one] at b1 b2
 rw [rungM_one] at b3
 refine ⟨a3, b3, ?_, ?_⟩
 ·unfold qR at b1 ⊢
  omega
 ·unfold qR at b2 ⊢
  omega
end Go.Proofs.YtlgencbldbpbdaaGreatDoor
namespace Go.Proofs.YtlgencbldbpbdaaGreatDoor
open Go.RowKit Fl
structure In (x : Nat) (lo hi : Int) : Prop where
 u : U x
 f : fin x = true
 l : lo ≤ un x
 h : un x ≤ hi
theorem ru_mono {y z : Int} (h : y ≤ z) : ru y ≤ ru z := by
 unfold ru
 by_cases hy : y < 0
 ·rw [if_pos hy]
  by_cases hz : z < 0
  ·rw [if_pos hz]
   have := Fl.val_le 52 _ _ (rnd_mono (show z.natAbs ≤ y.natAbs by omega))
   omega
  ·rw [if_neg hz]; omega
 ·rw [if_neg hy, if_neg (by omega)]
  have := Fl.val_le 52 _ _ (rnd_mono (show y.natAbs ≤ z.natAbs by omega))
  omega
theorem ru_rep {z : Int} (h : Rep z) : ru z = z := by
 unfold ru
 rw [h.1]
 split <;> omega
theorem In.wz {z lo hi : Int} (c : Bool) (hl : Rep lo) (hh : Rep hi) (h1 : lo ≤ z) (h2 : z ≤ hi) : In (wz z c) lo hi := by
 refine ⟨U_wz _ _, fin_wzr _ ?_, ?_, ?_⟩
 ·by_cases h : z < 0
  ·exact Nat.lt_of_le_of_lt (rnd_mono (show z.natAbs ≤ lo.natAbs by omega)) hl.2
  ·exact Nat.lt_of_le_of_lt (rnd_mono (show z.natAbs ≤ hi.natAbs by omega)) hh.2
 ·rw [un_wzr]; have := ru_mono h1; rwa [ru_rep hl] at this
 ·rw [un_wzr]; have := ru_mono h2; rwa [ru_rep hh] at this
theorem In.add {a b : Nat} {l h l' h' lo hi : Int} (ha : In a l h) (hb : In b l' h') (hl : Rep lo) (hh : Rep hi) (h1 : lo ≤ l + l') (h2 : h + h' ≤ hi) :
  ∃ r, floatBits .add .f64 a b = some r ∧ In r lo hi :=
 ⟨_, add_fin a b ha.u hb.u ha.f hb.f, In.wz _ hl hh (by have := ha.l; have := hb.l; omega) (by have := ha.h; have := hb.h; omega)⟩
theorem In.sub {a b : Nat} {l h l' h' lo hi : Int} (ha : In a l h) (hb : In b l' h') (hl : Rep lo) (hh : Rep hi) (h1 : lo ≤ l - h') (h2 : h - l' ≤ hi) :
  ∃ r, floatBits .sub .f64 a b = some r ∧ In r lo hi := by
 have hn : In (ng b) (-h') (-l') := ⟨by rw [ng_eq b hb.u]; exact U_word _ _ (rg_lt b), by rw [fin_ng hb.u]; exact hb.f, by rw [un_ng hb.u]; have := hb.h; omega, by rw [un_ng hb.u]; have := hb.l; omega⟩
 obtain ⟨r, h3, h4⟩ := ha.add hn hl hh (by omega) (by omega)
 refine ⟨r, ?_, h4⟩
 rcases sub_ng a b hb.u with h5 | h5
 ·have e : floatBits .sub .f64 a b = Ieee.double.sub a b := rfl
  rw [e, h5]; exact h3
 ·rw [fin_not_nan hb.f] at h5; cases h5
theorem nearest_in {neg : Bool} {M : Nat} {p : Int} {H : Nat} (hH : Fl.val 52 (rnd H) = H ∧ rnd H < INF) (h : M * 2 ^ (p + 1074).toNat ≤ H * 2 ^ (-1074 - p).toNat) :
  In (Ieee.double.nearest neg M p) (-(H : Int)) H := by
 have e : Ieee.double.nearest neg M p = word neg (min (rungOf 52 (M * 2 ^ (p + 1074).toNat) (-1074 - p).toNat) INF) := by
  rw [nearest_eq, word_eq, d_fb, d_inf, d_least, show p - -1074 = p + 1074 by omega]
 have hr : rungOf 52 (M * 2 ^ (p + 1074).toNat) (-1074 - p).toNat ≤ rnd H := by
  have h1 := rungOf_mono 52 _ _ (-1074 - p).toNat h
  have h2 := rungOf_scale 52 H 0 (-1074 - p).toNat
  rw [Nat.zero_add] at h2
  rw [h2, rung_of_rnd hH.2] at h1
  exact h1
 clear h
 rw [e]
 clear e
 generalize rungOf 52 (M * 2 ^ (p + 1074).toNat) (-1074 - p).toNat = r0 at *
 obtain ⟨r, hrr⟩ : ∃ r, r = min r0 INF := ⟨_, rfl⟩
 have hr2 : r ≤ rnd H := by rw [hrr]; exact Nat.le_trans (Nat.min_le_left _ _) hr
 have hr3 : r < 9223372036854775808 := Nat.lt_of_le_of_lt hr2 (rnd_lt H)
 rw [← hrr]
 clear hrr hr
 have hv := Fl.val_le 52 _ _ hr2
 rw [hH.1] at hv
 refine ⟨U_word _ _ hr3, ?_, ?_, ?_⟩
 ·unfold fin; rw [rg_word _ _ hr3]; exact decide_eq_true (by have := hH.2; omega)
 ·unfold un; rw [rg_word _ _ hr3]; split <;> omega
 ·unfold un; rw [rg_word _ _ hr3]; split <;> omega
theorem pow_side {M H s : Nat} {p : Int} (hp : p = -2148 + (s : Int)) (h : M * 2 ^ s ≤ H * 2 ^ K) : M * 2 ^ (p + 1074).toNat ≤ H * 2 ^ (-1074 - p).toNat := by
 have eK : K = 1074 := rfl
 rcases Nat.le_total K s with c | c
 ·rw [show (-1074 - p).toNat = 0 by omega, Nat.pow_zero, Nat.mul_one]
  rw [show s = (p + 1074).toNat + K by omega, Nat.pow_add, ← Nat.mul_assoc] at h
  exact Nat.le_of_mul_le_mul_right h (Nat.two_pow_pos _)
 ·rw [show (p + 1074).toNat = 0 by omega, Nat.pow_zero, Nat.mul_one]
  rw [show K = (-1074 - p).toNat + s by omega, Nat.pow_add, ← Nat.mul_assoc] at h
  exact Nat.le_of_mul_le_mul_right h (Nat.two_pow_pos _)
theorem mg_mul {a b A B H : Nat} (ha : In a (-(A : Int)) A) (hb : In b (-(B : Int)) B) (hH : Fl.val 52 (rnd H) = H ∧ rnd H < INF) (h : A * B ≤ H * ONE) :
  ∃ r, floatBits .mul .f64 a b = some r ∧ In r (-(H : Int)) H := by
 obtain ⟨m, i, ea, va⟩ := read_fin a ha.u ha.f
 obtain ⟨n, j, eb, vb⟩ := read_fin b hb.u hb.f
 refine ⟨_, ?_, nearest_in (neg := sg a ^^ sg b) (M := m * n) (p := -1074 + (i : Int) + (-1074 + (j : Int))) hH (pow_side (s := i + j) (by omega) ?_)⟩
 ·show Ieee.double.mul a b = some _
  unfold Ieee.Format.mul
  rw [ea, eb]
  rfl
 ·have h1 : Fl.val 52 (rg a) ≤ A := by rw [← un_abs]; have := ha.l; have := ha.h; omega
  have h2 : Fl.val 52 (rg b) ≤ B := by rw [← un_abs]; have := hb.l; have := hb.h; omega
  rw [← one_pow]
  refine Nat.le_trans ?_ h
  refine Nat.le_trans (Nat.le_of_eq ?_) (Nat.mul_le_mul h1 h2)
  rw [← va, ← vb, Nat.pow_add]
  simp only [Nat.mul_assoc, Nat.mul_comm, Nat.mul_left_comm]
theorem one_rep : Fl.val 52 (rnd ONE) = ONE ∧ rnd ONE < INF := by
 have := rep_whole 1 (by decide)
 rw [Int.one_mul] at this
 exact this
theorem whole_rep (k : Nat) (h : k ≤ 9007199254740992) : Fl.val 52 (rnd (k * ONE)) = k * ONE ∧ rnd (k * ONE) < INF := by
 have := rep_whole (k : Int) (by omega)
 unfold Rep ONEi at this
 rw [show ((k : Int) * (ONE : Int)).natAbs = k * ONE by rw [Int.natAbs_mul]; rfl] at this
 exact this
theorem mg_div {a b : Nat} (ua : U a) (ub : U b) (fa : fin a = true) (fb : fin b = true) (h : Fl.val 52 (rg a) ≤ Fl.val 52 (rg b)) (h0 : 0 < Fl.val 52 (rg b)) :
  ∃ r, floatBits .quo .f64 a b = some r ∧ In r (-(ONE : Int)) ONE := by
 obtain ⟨m, i, ea, va, hm⟩ := read_fin53 a ua fa
 obtain ⟨n, j, eb, vb⟩ := read_fin b ub fb
 have hn : n ≠ 0 := by
  rintro rfl
  rw [Nat.zero_mul] at vb
  omega
 have hml : m.log2 ≤ 53 := by
  rcases Nat.eq_zero_or_pos m with e | e
  ·rw [e]; decide
  ·have := (Nat.log2_lt (n := m) (k := 53) (by omega)).2 (by omega)
   omega
 obtain ⟨d, hd⟩ : ∃ d, d = 52 + 2 + n.log2 - m.log2 := ⟨_, rfl⟩
 refine ⟨_, ?_, nearest_in (neg := sg a ^^ sg b) (M := 2 * (m <<< d / n) + (m <<< d % n != 0).toNat) (p := -1074 + (i : Int) - (-1074 + (j : Int)) - d - 1) one_rep ?_⟩
 ·show Ieee.double.div a b = some _
  unfold Ieee.Format.div
  rw [ea, eb, d_fb, hd]
  simp only [Ieee.Datum.quotient, if_neg hn, Option.map_some]
  rfl
 ·rw [Nat.shiftLeft_eq]
  rw [← va, ← vb] at h
  by_cases m0 : m = 0
  ·subst m0
   rw [Nat.zero_mul, Nat.zero_div, Nat.zero_mod]
   have e0 : (2 * 0 + ((0 : Nat) != 0).toNat) = 0 := rfl
   rw [e0, Nat.zero_mul]
   exact Nat.zero_le _
  have hM : ∃ e : Nat, (e : Int) = (j : Int) + d + 1 - i ∧ 2 * (m * 2 ^ d / n) + (m * 2 ^ d % n != 0).toNat ≤ 2 ^ e := by
   have hlog : m.log2 + i ≤ n.log2 + j := by
    have l1 := log2_mul_pow m i m0
    have l2 := log2_mul_pow n j hn
    rw [← l1, ← l2]
    refine (Nat.le_log2 (by have := Nat.two_pow_pos j; exact Nat.mul_ne_zero hn (by omega))).2 ?_
    exact Nat.le_trans (Nat.log2_self_le (Nat.mul_ne_zero m0 (by have := Nat.two_pow_pos i; omega))) h
   obtain ⟨t, ht⟩ : ∃ t, t = j + d - i := ⟨_, rfl⟩
   have hq : m * 2 ^ d ≤ n * 2 ^ t := by
    refine Nat.le_of_mul_le_mul_right (?_ : _ * 2 ^ i ≤ _) (Nat.two_pow_pos i)
    rw [Nat.mul_assoc, Nat.mul_assoc, ← Nat.pow_add, ← Nat.pow_add, show t + i = j + d by omega, Nat.add_comm d i, Nat.pow_add, Nat.pow_add, ← Nat.mul_assoc, ← Nat.mul_assoc]
    exact Nat.mul_le_mul_right _ h
   refine ⟨t + 1, by omega, ?_⟩
   have hdm := Nat.div_add_mod (m * 2 ^ d) n
   have hmod := Nat.mod_lt (m * 2 ^ d) (Nat.pos_of_ne_zero hn)
   have hle : m * 2 ^ d / n ≤ 2 ^ t := Nat.div_le_of_le_mul hq
   rw [Nat.pow_succ]
   rcases Nat.lt_or_eq_of_le hle with c | c
   ·have := Bool.toNat_le (m * 2 ^ d % n != 0)
    omega
   ·have hz : m * 2 ^ d % n = 0 := by
     rw [c] at hdm; omega
    rw [c, hz]
    show 2 * 2 ^ t + 0 ≤ _
    omega
  obtain ⟨e, he, hM⟩ := hM
  have eK : K = 1074 := rfl
  rw [show (-1074 + (i : Int) - (-1074 + (j : Int)) - d - 1) = -(e : Int) by omega]
  rcases Nat.le_total e K with c | c
  ·rw [show (-1074 - -(e : Int)).toNat = 0 by omega, Nat.pow_zero, Nat.mul_one, one_pow, show K = e + (-(e : Int) + 1074).toNat by omega, Nat.pow_add]
   exact Nat.mul_le_mul_right _ hM
  ·rw [show (-(e : Int) + 1074).toNat = 0 by omega, Nat.pow_zero, Nat.mul_one, one_pow, ← Nat.pow_add, show K + (-1074 - -(e : Int)).toNat = e by omega]
   exact hM
end Go.Proofs.YtlgencbldbpbdaaGreatDoor
namespace Go.Proofs.YtlgencbldbpbdaaGreatDoor
open Go.RowKit Fl
open Go.Extern (MathAsm.arith MathAsm.add MathAsm.sub MathAsm.mul MathAsm.div)
theorem pb {α β : Type} (a : α) (f : α → Sem β) : (pure a >>= f : Sem β) = f a := rfl
theorem add_pure {x y r : Nat} (h : floatBits .add .f64 x y = some r) : Extern.MathAsm.add x y = pure r := by
 have h2 : FloatKind.f64.format.add x y = some r := h
 unfold Extern.MathAsm.add Extern.MathAsm.arith Op.floatArith
 simp only [pb, h2]
theorem sub_pure {x y r : Nat} (h : floatBits .sub .f64 x y = some r) : Extern.MathAsm.sub x y = pure r := by
 have h2 : FloatKind.f64.format.sub x y = some r := h
 unfold Extern.MathAsm.sub Extern.MathAsm.arith Op.floatArith
 simp only [pb, h2]
theorem mul_pure {x y r : Nat} (h : floatBits .mul .f64 x y = some r) : Extern.MathAsm.mul x y = pure r := by
 have h2 : FloatKind.f64.format.mul x y = some r := h
 unfold Extern.MathAsm.mul Extern.MathAsm.arith Op.floatArith
 simp only [pb, h2]
theorem div_pure {x y r : Nat} (h : floatBits .quo .f64 x y = some r) : Extern.MathAsm.div x y = pure r := by
 have h2 : FloatKind.f64.format.div x y = some r := h
 unfold Extern.MathAsm.div Extern.MathAsm.arith Op.floatArith
 simp only [pb, h2]
def Mg (x k : Nat) : Prop := In x (-((k * ONE : Nat) : Int)) ((k * ONE : Nat) : Int)
theorem repk {k : Nat} (h : k ≤ 9007199254740992) : Rep ((k * ONE : Nat) : Int) := whole_rep k h
theorem Mg.add {x y k l m : Nat} (hx : Mg x k) (hy : Mg y l) (hm : m = k + l) (h : m ≤ 9007199254740992) : ∃ r, Extern.MathAsm.add x y = pure r ∧ Mg r m := by
 subst hm
 have e : ((k + l) * ONE : Nat) = k * ONE + l * ONE := Nat.add_mul _ _ _
 obtain ⟨r, h1, h2⟩ := In.add hx hy (rep_neg (repk h)) (repk h) (by omega) (by omega)
 exact ⟨r, add_pure h1, h2⟩
theorem Mg.sub {x y k l m : Nat} (hx : Mg x k) (hy : Mg y l) (hm : m = k + l) (h : m ≤ 9007199254740992) : ∃ r, Extern.MathAsm.sub x y = pure r ∧ Mg r m := by
 subst hm
 have e : ((k + l) * ONE : Nat) = k * ONE + l * ONE := Nat.add_mul _ _ _
 obtain ⟨r, h1, h2⟩ := In.sub hx hy (rep_neg (repk h)) (repk h) (by omega) (by omega)
 exact ⟨r, sub_pure h1, h2⟩
theorem Mg.mul {x y k l m : Nat} (hx : Mg x k) (hy : Mg y l) (hm : m = k * l) (h : m ≤ 9007199254740992) : ∃ r, Extern.MathAsm.mul x y = pure r ∧ floatBits .mul .f64 x y = some r ∧ Mg r m := by
 subst hm
 obtain ⟨r, h1, h2⟩ := mg_mul hx hy (whole_rep _ h) (Nat.le_of_eq (by simp only [Nat.mul_assoc, Nat.mul_comm, Nat.mul_left_comm]))
 exact ⟨r, mul_pure h1, h1, h2⟩
theorem in_word {x : Nat} {lo hi : Nat} (h1 : lo ≤ x) (h2 : x ≤ hi) (h3 : hi < INF) : In x (Fl.val 52 lo : Int) (Fl.val 52 hi : Int) := by
 have r : rg x = x := Nat.mod_eq_of_lt (by unfold INF at h3; omega)
 have s : sg x = false := by unfold sg; exact decide_eq_false (by unfold INF at h3; omega)
 have u : un x = (Fl.val 52 x : Int) := by unfold un; rw [s, r]; rfl
 refine ⟨by unfold U; unfold INF at h3; omega, by unfold fin; rw [r]; exact decide_eq_true (by omega), ?_, ?_⟩
 ·rw [u]; have := Fl.val_le 52 _ _ h1; omega
 ·rw [u]; have := Fl.val_le 52 _ _ h2; omega
theorem val_c (q e : Nat) (h : 1 ≤ q) (he : e = 52 + (q - 1)) : Fl.val 52 (q * 4503599627370496) = 2 ^ e := by
 subst he
 unfold Fl.val
 have e52 : (2 : Nat) ^ 52 = 4503599627370496 := by decide
 rw [e52, if_neg (by omega), Nat.mul_mod_left, Nat.mul_div_cancel _ (by decide), Nat.add_zero, Nat.pow_add, e52]
def HK : Nat := 1073
def HALF : Nat := 2 ^ HK
theorem one_half : ONE = 2 * HALF := by unfold HALF; rw [one_pow, show K = HK + 1 from rfl, Nat.pow_succ, Nat.mul_comm]
theorem val_half : Fl.val 52 4602678819172646912 = HALF := by rw [show (4602678819172646912 : Nat) = 1022 * 4503599627370496 by decide, val_c 1022 HK (by decide) (by decide)]; rfl
theorem val_one : Fl.val 52 4607182418800017408 = ONE := by rw [show (4607182418800017408 : Nat) = 1023 * 4503599627370496 by decide, val_c 1023 K (by decide) (by decide), one_pow]
theorem val_two : Fl.val 52 4611686018427387904 = 2 * ONE := by
 rw [show (4611686018427387904 : Nat) = 1024 * 4503599627370496 by decide, val_c 1024 (K + 1) (by decide) (by decide), one_pow, Nat.pow_succ, Nat.mul_comm]
theorem mg_const {c : Nat} (h : c ≤ 4607182418800017408) : Mg c 1 := by
 have := in_word (x := c) (lo := 0) (hi := 4607182418800017408) (Nat.zero_le _) h (by decide)
 rw [val_one] at this
 refine ⟨this.u, this.f, ?_, ?_⟩
 ·have h1 := this.l; rw [Fl.val_zero] at h1; omega
 ·have h1 := this.h; rw [Nat.one_mul]; exact h1
theorem mg_of {x k : Nat} {lo hi : Int} (h : In x lo hi) (h1 : -((k * ONE : Nat) : Int) ≤ lo) (h2 : hi ≤ ((k * ONE : Nat) : Int)) : Mg x k := ⟨h.u, h.f, Int.le_trans h1 h.l, Int.le_trans h.h h2⟩
theorem half_rep : Fl.val 52 (rnd HALF) = HALF ∧ rnd HALF < INF := by
 have := small_word 1 HK (by decide) (by decide)
 rw [Nat.one_mul] at this
 unfold HALF
 exact this
theorem rep_half : Rep ((HALF : Nat) : Int) := half_rep
theorem rep_3half : Rep ((3 * HALF : Nat) : Int) := by
 have := small_word 3 HK (by decide) (by decide)
 show Fl.val 52 (rnd (3 * HALF)) = 3 * HALF ∧ rnd (3 * HALF) < INF
 unfold HALF
 exact this
theorem int_near {n : Int} {k : Nat} (hn : n.natAbs ≤ k) (hk : k ≤ 9007199254740992) : Mg (FloatKind.f64.nearest n) k := by
 have e : FloatKind.f64.nearest n = Ieee.double.nearest (n < 0) n.natAbs 0 := rfl
 unfold Mg
 rw [e]
 refine nearest_in (whole_rep k hk) ?_
 rw [show (-1074 - (0 : Int)).toNat = 0 by rfl, Nat.pow_zero, Nat.mul_one, show (0 + 1074 : Int).toNat = K by rfl, one_pow]
 exact Nat.mul_le_mul_right _ hn
theorem frac_in {f1 : Nat} (small : Bool) (h1 : 4602678819172646912 ≤ f1) (h2 : f1 < 4607182418800017408) :
  ∃ g r, Extern.MathAsm.add (if small = true then 4607182418800017408 else 0) 4607182418800017408 = pure g ∧ Extern.MathAsm.mul f1 g = pure r ∧ In r ((HALF : Nat) : Int) ((2 * ONE : Nat) : Int) := by
 have i1 := in_word h1 (Nat.le_of_lt h2) (by decide)
 rw [val_half, val_one] at i1
 have r1 : rg f1 = f1 := Nat.mod_eq_of_lt (by omega)
 have s1 : sg f1 = false := by unfold sg; exact decide_eq_false (by omega)
 have u1 : un f1 = (Fl.val 52 f1 : Int) := by unfold un; rw [s1, r1]; rfl
 have oh := one_half
 have b1 := i1.l
 have b2 := i1.h
 rw [u1] at b1 b2
 have rep2 : Rep ((2 * ONE : Nat) : Int) := whole_rep 2 (by decide)
 cases small
 ·refine ⟨4607182418800017408, _, add_pure (show floatBits .add .f64 0 4607182418800017408 = some 4607182418800017408 by kernel_rfl), mul_pure (mul_fin f1 4607182418800017408 i1.u (by unfold U; decide) i1.f (by decide) (Fl.val 52 f1) (by rw [r1, show rg 4607182418800017408 = 4607182418800017408 by decide, val_one])), ?_⟩
  have := In.wz (z := (Fl.val 52 f1 : Int)) false rep_half rep2 b1 (by omega)
  have e : wz (Fl.val 52 f1 : Int) false = word (sg f1 ^^ sg 4607182418800017408) (rnd (Fl.val 52 f1)) := by
   unfold wz
   rw [s1, show sg 4607182418800017408 = false by decide, decide_eq_false (by omega), Bool.and_false]
   rfl
  rwa [e] at this
 ·refine ⟨4611686018427387904, _, add_pure (show floatBits .add .f64 4607182418800017408 4607182418800017408 = some 4611686018427387904 by kernel_rfl), mul_pure (mul_fin f1 4611686018427387904 i1.u (by unfold U; decide) i1.f (by decide) (2 * Fl.val 52 f1) (by rw [r1, show rg 4611686018427387904 = 4611686018427387904 by decide, val_two]; simp only [Nat.mul_assoc, Nat.mul_comm, Nat.mul_left_comm])), ?_⟩
  have := In.wz (z := ((2 * Fl.val 52 f1 : Nat) : Int)) false rep_half rep2 (by omega) (by omega)
  have e : wz ((2 * Fl.val 52 f1 : Nat) : Int) false = word (sg f1 ^^ sg 4611686018427387904) (rnd (2 * Fl.val 52 f1)) := by
   unfold wz
   rw [s1, show sg 4611686018427387904 = false by decide, decide_eq_false (by omega), Bool.and_false]
   rfl
  rwa [e] at this
theorem m1 (x : Nat) (a : Nat → Sem Value) (b : Array Value → Sem Value) : Extern.MathLog.archLog.match_1 (fun _ => Sem Value) #[.float .f64 x] a b = a x := rfl
set_option maxRecDepth 100000 in
set_option maxHeartbeats 2000000 in
theorem log_pure {x : Nat} (h0 : 0 < x) (h1 : x < INF) : ∃ y, Extern.MathLog.archLog #[.float .f64 x] = pure (.float .f64 y) ∧ Mg y 2212 := by
 have hI : x < 9218868437227405312 := h1
 obtain ⟨f1, hf⟩ : ∃ f1, f1 = x % 2 ^ 52 + Extern.MathAsm.half := ⟨_, rfl⟩
 have e52 : (2 : Nat) ^ 52 = 4503599627370496 := by decide
 have hh : Extern.MathAsm.half = 4602678819172646912 := by decide
 have f1a : 4602678819172646912 ≤ f1 := by rw [hf, hh]; omega
 have f1b : f1 < 4607182418800017408 := by rw [hf, hh, e52]; omega
 obtain ⟨small, hs⟩ : ∃ s : Bool, s = !Extern.MathAsm.lt 0x3FE6A09E667F3BCD f1 := ⟨_, rfl⟩
 obtain ⟨k0, hk0⟩ : ∃ k0, k0 = Extern.MathAsm.ofInt32 (Int.ofNat (x / 2 ^ 52) - 0x3FE) := ⟨_, rfl⟩
 have mk0 : Mg k0 1100 := by
  rw [hk0]
  refine int_near ?_ (by decide)
  rw [e52]
  have : x / 4503599627370496 ≤ 2047 := by omega
  show (((x / 4503599627370496 : Nat) : Int) - 1022).natAbs ≤ 1100
  omega
 have oh := one_half
 have mb : Mg (if small = true then 4607182418800017408 else 0) 1 := by cases small <;> exact mg_const (by decide)
 obtain ⟨k1, ek1, mk1⟩ := mk0.sub mb (m := 1101) rfl (by decide)
 obtain ⟨g, f2, eg, ef2, if2⟩ := frac_in small f1a f1b
 have one1 : In 4607182418800017408 ((ONE : Nat) : Int) ((ONE : Nat) : Int) := by
  have := in_word (x := 4607182418800017408) (Nat.le_refl _) (Nat.le_refl _) (by decide)
  rwa [val_one] at this
 have two1 : In 4611686018427387904 ((2 * ONE : Nat) : Int) ((2 * ONE : Nat) : Int) := by
  have := in_word (x := 4611686018427387904) (Nat.le_refl _) (Nat.le_refl _) (by decide)
  rwa [val_two] at this
 obtain ⟨f, ef0, iff⟩ := In.sub (lo := -((HALF : Nat) : Int)) (hi := ((ONE : Nat) : Int)) if2 one1 (rep_neg rep_half) one_rep (by omega) (by omega)
 have ef := sub_pure ef0
 obtain ⟨d, ed0, id⟩ := In.add (lo := ((3 * HALF : Nat) : Int)) (hi := ((3 * ONE : Nat) : Int)) two1 iff rep_3half (whole_rep 3 (by decide)) (by omega) (by omega)
 have ed := add_pure ed0
 have vf : Fl.val 52 (rg f) ≤ ONE := by rw [← un_abs]; have := iff.l; have := iff.h; omega
 have vd : 3 * HALF ≤ Fl.val 52 (rg d) := by rw [← un_abs]; have := id.l; omega
 have hp : 0 < HALF := Nat.two_pow_pos _
 obtain ⟨s, es0, is⟩ := mg_div iff.u id.u iff.f id.f (by omega) (by omega)
 have es := div_pure es0
 have ms : Mg s 1 := mg_of is (by omega) (by omega)
 have mf : Mg f 1 := mg_of iff (by omega) (by omega)
 obtain ⟨s2, es2, -, ms2⟩ := ms.mul ms (m := 1) rfl (by decide)
 obtain ⟨s4, es4, -, ms4⟩ := ms2.mul ms2 (m := 1) rfl (by decide)
 obtain ⟨a1, ea1, -, ma1⟩ := (mg_const (c := 0x3FC2F112DF3E5244) (by decide)).mul ms4 (m := 1) rfl (by decide)
 obtain ⟨a2, ea2, ma2⟩ := ma1.add (mg_const (c := 0x3FC7466496CB03DE) (by decide)) (m := 2) rfl (by decide)
 obtain ⟨a3, ea3, -, ma3⟩ := ma2.mul ms4 (m := 2) rfl (by decide)
 obtain ⟨a4, ea4, ma4⟩ := ma3.add (mg_const (c := 0x3FD2492494229359) (by decide)) (m := 3) rfl (by decide)
 obtain ⟨a5, ea5, -, ma5⟩ := ma4.mul ms4 (m := 3) rfl (by decide)
 obtain ⟨a6, ea6, ma6⟩ := ma5.add (mg_const (c := 0x3FE5555555555593) (by decide)) (m := 4) rfl (by decide)
 obtain ⟨t1, et1, -, mt1⟩ := ms2.mul ma6 (m := 4) rfl (by decide)
 obtain ⟨b1, eb1, -, mb1⟩ := (mg_const (c := 0x3FC39A09D078C69F) (by decide)).mul ms4 (m := 1) rfl (by decide)
 obtain ⟨b2, eb2, mb2⟩ := mb1.add (mg_const (c := 0x3FCC71C51D8E78AF) (by decide)) (m := 2) rfl (by decide)
 obtain ⟨b3, eb3, -, mb3⟩ := mb2.mul ms4 (m := 2) rfl (by decide)
 obtain ⟨b4, eb4, mb4⟩ := mb3.add (mg_const (c := 0x3FD999999997FA04) (by decide)) (m := 3) rfl (by decide)
 obtain ⟨t2, et2, -, mt2⟩ := ms4.mul mb4 (m := 3) rfl (by decide)
 obtain ⟨r, er, mr⟩ := mt1.add mt2 (m := 7) rfl (by decide)
 obtain ⟨c1, ec1, -, mc1⟩ := (mg_const (c := Extern.MathAsm.half) (by decide)).mul mf (m := 1) rfl (by decide)
 obtain ⟨hq, ehq, -, mhq⟩ := mc1.mul mf (m := 1) rfl (by decide)
 obtain ⟨d1, ed1, md1⟩ := mr.add mhq (m := 8) rfl (by decide)
 obtain ⟨d2, ed2, -, md2⟩ := ms.mul md1 (m := 8) rfl (by decide)
 obtain ⟨d3, ed3, -, md3⟩ := (mg_const (c := 0x3DEA39EF35793C76) (by decide)).mul mk1 (m := 1101) rfl (by decide)
 obtain ⟨d4, ed4, md4⟩ := md2.add md3 (m := 1109) rfl (by decide)
 obtain ⟨z1, ez1, -, mz1⟩ := mk1.mul (mg_const (c := 0x3FE62E42FEE00000) (by decide)) (m := 1101) rfl (by decide)
 obtain ⟨z2, ez2, mz2⟩ := mhq.sub md4 (m := 1110) rfl (by decide)
 obtain ⟨z3, ez3, mz3⟩ := mz2.sub mf (m := 1111) rfl (by decide)
 obtain ⟨y, ey, my⟩ := mz1.sub mz3 (m := 2212) rfl (by decide)
 refine ⟨y, ?_, my⟩
 have c1 : (x % 2 ^ 63 == 0) = false := by
  rw [show (2 : Nat) ^ 63 = 9223372036854775808 by decide, Nat.mod_eq_of_lt (by omega)]
  exact beq_eq_false_iff_ne.2 (by omega)
 have c2 : ¬ x ≥ 2 ^ 63 := by rw [show (2 : Nat) ^ 63 = 9223372036854775808 by decide]; omega
 have c3 : ¬ x ≥ Extern.MathAsm.posInf := by rw [show Extern.MathAsm.posInf = 9218868437227405312 by decide]; omega
 delta Extern.MathLog.archLog
 dsimp only
 rw [m1]
 have o1 : Extern.MathAsm.one = 4607182418800017408 := rfl
 have o2 : Extern.MathAsm.two = 4611686018427387904 := rfl
 rw [← hf, ← hs, ← hk0, o1, o2, c1, if_neg Bool.false_ne_true, if_neg c2, if_neg c3]
 rw [ek1, pb, eg, pb, ef2, pb, ef, pb, ed, pb, es, pb, es2, pb, es4, pb, ea1, pb, ea2, pb, ea3, pb, ea4, pb, ea5, pb, ea6, pb, et1, pb, eb1, pb, eb2, pb, eb3, pb, eb4, pb, et2, pb, er, pb, ec1, pb, ehq, pb, ed1, pb, ed2, pb, ed3, pb, ed4, pb, ez1, pb, ez2, pb, ez3, pb, ey, pb]
end Go.Proofs.YtlgencbldbpbdaaGreatDoor
namespace Go.Proofs.YtlgencbldbpbdaaGreatDoor
open Go.RowKit Fl
theorem one_posi : 0 < ONEi := by unfold ONEi; have := one_pos; omega
theorem cut_zero (s : Bool) (n d : Nat) : Ieee.Toward.zero.cut s n d = n / 2 ^ (min d (n.log2 + 2)) := by
 unfold Ieee.Toward.cut
 simp only [Nat.shiftLeft_eq, Nat.one_mul]
 rfl
theorem read_int (x : Nat) (h : U x) (hf : fin x = true) (z : Nat) (e : Fl.val 52 (rg x) = z * ONE) : (Ieee.double.read x).toInt .zero = some (if sg x = true then -(z : Int) else (z : Int)) := by
 obtain ⟨m, j, er, v⟩ := read_fin x h hf
 rw [er]
 unfold Ieee.Datum.toInt Ieee.Datum.integral
 simp only
 rw [signed_eq, cut_zero, Nat.shiftLeft_eq, Nat.pow_zero, Nat.mul_one]
 have hz : m * 2 ^ (-1074 + (j : Int)).toNat / 2 ^ (min (-(-1074 + (j : Int))).toNat ((m * 2 ^ (-1074 + (j : Int)).toNat).log2 + 2)) = z := by
  rw [← v] at e
  have hK := K_eq
  rcases Nat.le_total j 1074 with hj | hj
  ·rw [show (-1074 + (j : Int)).toNat = 0 by omega, show (-(-1074 + (j : Int))).toNat = 1074 - j by omega, Nat.pow_zero, Nat.mul_one]
   have e2 : m = z * 2 ^ (1074 - j) := by
    rw [one_split (1074 - j) j (by omega), ← Nat.mul_assoc] at e
    exact Nat.eq_of_mul_eq_mul_right (Nat.two_pow_pos j) e
   rcases Nat.eq_zero_or_pos z with h0 | h0
   ·subst h0
    rw [e2, Nat.zero_mul, Nat.zero_div]
   ·have hm : m ≠ 0 := by rw [e2]; exact Nat.mul_ne_zero (by omega) (Nat.ne_of_gt (Nat.two_pow_pos _))
    have hl : 1074 - j ≤ m.log2 := by
     have h1 : 2 ^ (1074 - j) ≤ m := by rw [e2]; exact Nat.le_mul_of_pos_left _ h0
     exact (Nat.le_log2 hm).2 h1
    rw [Nat.min_eq_left (by omega)]
    rw [e2]
    exact Nat.mul_div_cancel _ (Nat.two_pow_pos _)
  ·rw [show (-1074 + (j : Int)).toNat = j - 1074 by omega, show (-(-1074 + (j : Int))).toNat = 0 by omega, Nat.zero_min, Nat.pow_zero, Nat.div_one]
   rw [pow_one j (j - 1074) (by omega), ← Nat.mul_assoc] at e
   exact Nat.eq_of_mul_eq_mul_right one_pos e
 rw [hz]
theorem f2i (x : Nat) (z : Int) (h : U x) (hf : fin x = true) (e : un x = z * ONEi) (hz : z.natAbs ≤ 9007199254740992) : floatToIntVal .f64 x .i64 = some z := by
 have hv : Fl.val 52 (rg x) = z.natAbs * ONE := by rw [← un_abs, e, Int.natAbs_mul]; rfl
 have hr := read_int x h hf z.natAbs hv
 have hs : (if sg x = true then -(z.natAbs : Int) else (z.natAbs : Int)) = z := by
  rw [sgn_un, hv] at e
  have hp := one_posi
  have e1 : ((z.natAbs * ONE : Nat) : Int) = (z.natAbs : Int) * ONEi := by unfold ONEi; push_cast; rfl
  rw [e1] at e
  have s1 : 0 < z → 0 < z * ONEi := fun h => Int.mul_pos h hp
  have s2 : z < 0 → z * ONEi < 0 := fun h => Int.mul_neg_of_neg_of_pos h hp
  have s3 := Int.mul_nonneg (show (0 : Int) ≤ (z.natAbs : Int) by omega) (Int.le_of_lt hp)
  by_cases c : sg x = true
  ·rw [if_pos c] at e ⊢; omega
  ·rw [if_neg c] at e ⊢; omega
 unfold floatToIntVal
 rw [show FloatKind.f64.decode x = Ieee.double.read x from rfl, hr, hs]
 simp only
 rw [if_pos]
 constructor
 ·show (-9223372036854775808 : Int) ≤ z; omega
 ·show z ≤ (9223372036854775807 : Int); omega
theorem cut_down (s : Bool) (n d : Nat) : Ieee.Toward.down.cut s n d = n / 2 ^ (min d (n.log2 + 2)) + (s && n % 2 ^ (min d (n.log2 + 2)) != 0).toNat := by
 unfold Ieee.Toward.cut
 simp only [Nat.shiftLeft_eq, Nat.one_mul]
def flN (x : Nat) : Nat := Fl.val 52 (rg x) / ONE + (sg x && Fl.val 52 (rg x) % ONE != 0).toNat
theorem floor_cut (s : Bool) (m j : Nat) : Ieee.Toward.down.cut s (m * 2 ^ (-1074 + (j : Int)).toNat) (-(-1074 + (j : Int))).toNat = m * 2 ^ j / ONE + (s && m * 2 ^ j % ONE != 0).toNat := by
 have hK := K_eq
 rw [cut_down]
 rcases Nat.le_total j 1074 with hj | hj
 ·rw [show (-1074 + (j : Int)).toNat = 0 by omega, show (-(-1074 + (j : Int))).toNat = 1074 - j by omega, Nat.pow_zero, Nat.mul_one]
  rw [one_split (1074 - j) j (by omega)]
  rw [Nat.mul_div_mul_right _ _ (Nat.two_pow_pos j), Nat.mul_mod_mul_right]
  have e2 : (m % 2 ^ (1074 - j) * 2 ^ j != 0) = (m % 2 ^ (1074 - j) != 0) := by
   have := Nat.two_pow_pos j
   rw [Bool.eq_iff_iff, bne_iff_ne, bne_iff_ne]
   constructor
   ·intro h e; rw [e, Nat.zero_mul] at h; exact h rfl
   ·intro h e; rcases Nat.mul_eq_zero.1 e with e | e
    ·exact h e
    ·omega
  rw [e2]
  rcases Nat.le_total (1074 - j) (m.log2 + 2) with c | c
  ·rw [Nat.min_eq_left c]
  ·rw [Nat.min_eq_right c]
   have h1 : m < 2 ^ (m.log2 + 2) := Nat.lt_of_lt_of_le Nat.lt_log2_self (Nat.pow_le_pow_right (by decide) (by omega))
   have h2 : m < 2 ^ (1074 - j) := Nat.lt_of_lt_of_le h1 (Nat.pow_le_pow_right (by decide) c)
   rw [Nat.div_eq_of_lt h1, Nat.div_eq_of_lt h2, Nat.mod_eq_of_lt h1, Nat.mod_eq_of_lt h2]
 ·rw [show (-1074 + (j : Int)).toNat = j - 1074 by omega, show (-(-1074 + (j : Int))).toNat = 0 by omega, Nat.zero_min, Nat.pow_zero, Nat.div_one, Nat.mod_one]
  rw [pow_one j (j - 1074) (by omega), ← Nat.mul_assoc, Nat.mul_div_cancel _ one_pos, Nat.mul_mod_left]
def flW (x : Nat) : Nat := word (sg x) (rnd (flN x * ONE))
def onDown (x : Nat) : Ieee.Datum → Sem Value
 | .nan s t => if FloatKind.f64.format.quiet t = t then pure (.float .f64 x) else
   (choose (.extern "math.Floor,Ceil,Trunc,RoundToEven.signallingNaN kept" 2)).bind fun k => pure (.float .f64 (if k == 1 then x else FloatKind.f64.encode (.nan s (FloatKind.f64.format.quiet t))))
 | d => pure (.float .f64 (FloatKind.f64.encode (d.integral .down)))
theorem onDown_eq (x : Nat) : Extern.MathFloor.toIntegral "math.archFloor" .down #[.float .f64 x] = onDown x (Ieee.double.read x) := rfl
theorem x72 (x : Nat) (w : World) (hx : U x) (hf : fin x = true) : (callFunc 136 #[.float .f64 x]).run Tryz.prog w = .ok (.value (.float .f64 (flW x))) w := by
 rw [run_callFunc_extern (P := Tryz.prog) (f := 136) (fn := Tryz.f136) (e := Extern.MathFloor.toIntegral "math.archFloor" .down) (by kernel_rfl) (by kernel_rfl) (by kernel_rfl) (by kernel_rfl) (by kernel_rfl)]
 have key : (Extern.MathFloor.toIntegral "math.archFloor" .down #[.float .f64 x]).run Tryz.prog w = .ok (.float .f64 (flW x)) w := by
  obtain ⟨m, j, e, v⟩ := read_fin x hx.lt hf
  have hw : Ieee.double.write ((Ieee.double.read x).integral .down) = flW x := by
   rw [e]
   show Ieee.double.nearest _ _ _ = _
   rw [Nat.shiftLeft_eq, floor_cut, nearest_int, v]
   rfl
  rw [onDown_eq]
  rw [← hw, e]
  rfl
 rw [key]; rfl
theorem x130 {x : Nat} (h0 : 0 < x) (h1 : x < INF) : ∃ y, (∀ w, (callFunc 294 #[.float .f64 x]).run Tryz.prog w = .ok (.value (.float .f64 y)) w) ∧ Mg y 2212 := by
 obtain ⟨y, hy, my⟩ := log_pure h0 h1
 refine ⟨y, fun w => ?_, my⟩
 rw [run_callFunc_extern (P := Tryz.prog) (f := 294) (fn := Tryz.f294) (e := Extern.MathLog.archLog) (by kernel_rfl) (by kernel_rfl) (by kernel_rfl) (by kernel_rfl) (by kernel_rfl), hy]
 rfl
set_option maxRecDepth 100000 in
theorem cLog10 {x : Nat} (h0 : 0 < x) (h1 : x < INF) : ∃ y, Mg y 2212 ∧ ∀ w, Calls Tryz.prog 185 #[.float .f64 x] w fun e w' => e = .returned (.float .f64 y) ∧ w = w' := by
 obtain ⟨l, hl, ml⟩ := x130 h0 h1
 obtain ⟨y, -, hm, my⟩ := ml.mul (mg_const (c := 4601495173785380110) (by decide)) (m := 2212) rfl (by decide)
 refine ⟨y, my, fun w => ?_⟩
 have hmul : ∀ w, (binOp .mul 31 (.float .f64 l) (.float .f64 4601495173785380110)).run Tryz.prog w = .ok (.float .f64 y) w := fun w => run_float_arith w .mul 31 .f64 l _ y hm
 have C112 : Hid (∀ w, Calls Tryz.prog 285 #[.float .f64 x] w fun e w' => e = .returned (.float .f64 l) ∧ w = w') := Lib.hid (fun w => by
  clear h0 h1 ml hm my hmul
  go_enter Tryz.func285, Tryz.ntmps285
  go_wp2
  go_ret
  exact ⟨rfl, rfl⟩)
 clear h0 h1 ml hm my hl
 have C75 : Hid (∀ w, Calls Tryz.prog 248 #[.float .f64 x] w fun e w' => e = .returned (.float .f64 y) ∧ w = w') := Lib.hid (fun w => by
  go_enter Tryz.func248, Tryz.ntmps248
  go_wp2_with (go_at_call 285; refine (C112.out _).mono ?_; rintro e w' ⟨rfl, rfl⟩)
  go_ret
  exact ⟨rfl, rfl⟩)
 clear hmul C112
 go_enter Tryz.func185, Tryz.ntmps185
 go_wp2_with (go_at_call 248; refine (C75.out _).mono ?_; rintro e w' ⟨rfl, rfl⟩)
 go_ret
 exact ⟨rfl, rfl⟩
set_option maxRecDepth 100000 in
theorem cFloor {y : Nat} (my : Mg y 2212) : ∃ z : Int, -2213 ≤ z ∧ z ≤ 2213 ∧ ∃ f, (∀ w, Calls Tryz.prog 81 #[.float .f64 y] w fun e w' => e = .returned (.float .f64 f) ∧ w = w') ∧ ∀ w, (convert 31 3 (.float .f64 f)).run Tryz.prog w = .ok (.int .i64 z) w := by
 have hv : Fl.val 52 (rg y) ≤ 2212 * ONE := by rw [← un_abs]; have := my.l; have := my.h; omega
 have hp := one_pos
 have hn : flN y ≤ 2213 := by
  unfold flN
  have h1 : Fl.val 52 (rg y) / ONE ≤ 2212 := Nat.div_le_of_le_mul (by rw [Nat.mul_comm]; exact hv)
  have h2 := Bool.toNat_le (sg y && Fl.val 52 (rg y) % ONE != 0)
  omega
 have hr := whole_rep (flN y) (by omega)
 have hu : U (flW y) := U_word _ _ (rnd_lt _)
 have hf : fin (flW y) = true := fin_word _ _ hr.2
 have hun : un (flW y) = (if sg y = true then -(flN y : Int) else (flN y : Int)) * ONEi := by
  unfold flW
  rw [un_word _ _ hr.1]
  have e : ((flN y * ONE : Nat) : Int) = (flN y : Int) * ONEi := by unfold ONEi; push_cast; rfl
  rw [e]
  split
  ·rw [Int.neg_mul]
  ·rfl
 obtain ⟨z, hz⟩ : ∃ z : Int, z = if sg y = true then -(flN y : Int) else (flN y : Int) := ⟨_, rfl⟩
 rw [← hz] at hun
 have hzb : -2213 ≤ z ∧ z ≤ 2213 := by rw [hz]; split <;> omega
 refine ⟨z, hzb.1, hzb.2, flW y, fun w => ?_, fun w => run_convert_float_int w 31 3 .f64 .i64 _ z (by kernel_rfl) Tryz.underlying3 (f2i _ z hu hf hun (by omega))⟩
 have hx : ∀ w, (callFunc 136 #[.float .f64 y]).run Tryz.prog w = .ok (.value (.float .f64 (flW y))) w := fun w => x72 y w my.u my.f
 clear hv hp hn hr hu hf hun hz hzb my
 generalize flW y = f at *
 go_enter Tryz.func81, Tryz.ntmps81
 go_wp2
 go_ret
 exact ⟨rfl, rfl⟩
end Go.Proofs.YtlgencbldbpbdaaGreatDoor
namespace Go.Proofs.YtlgencbldbpbdaaGreatDoor
open Go.RowKit Fl
theorem PU.skey {p y : Int} (h : PU p y) : ∃ r, U r ∧ fin r = true ∧ pl r = p ∧ un r = y ∧ zk p = skey r ∧ p ≠ 9223372036854775807 := by
 obtain ⟨r, u, f, rfl, e⟩ := h
 have hn := fin_not_nan f
 exact ⟨r, u, f, rfl, e, (skey_pl hn).symm, fun c => by rw [isN_iff_pl, c] at hn; simp at hn⟩
theorem PU.lt {p q y z : Int} (h : PU p y) (k : PU q z) : fltP p q = decide (y < z) := by
 obtain ⟨r, -, -, -, e, s, n⟩ := h.skey
 obtain ⟨r2, -, -, -, e2, s2, n2⟩ := k.skey
 unfold fltP
 rw [decide_eq_true n, decide_eq_true n2, Bool.true_and, Bool.true_and, s, s2, ← e, ← e2]
 exact decide_eq_decide.2 (un_lt_iff r r2).symm
theorem PU.eqP {p q y z : Int} (h : PU p y) (k : PU q z) : feqP p q = decide (y = z) := by
 obtain ⟨r, -, -, -, e, s, n⟩ := h.skey
 obtain ⟨r2, -, -, -, e2, s2, n2⟩ := k.skey
 unfold feqP
 rw [decide_eq_true n, decide_eq_true n2, Bool.true_and, Bool.true_and, s, s2, ← e, ← e2]
 exact decide_eq_decide.2 (un_eq_iff r r2).symm
theorem PU.le {p q y z : Int} (h : PU p y) (k : PU q z) : fleP p q = decide (y ≤ z) := by
 rw [fleP_eq, h.lt k, h.eqP k, Bool.eq_iff_iff, Bool.or_eq_true, decide_eq_true_iff, decide_eq_true_iff, decide_eq_true_iff]
 omega
def fz (z : Int) : Nat := floatOfInt .f64 z
theorem fz_wz (z : Int) : fz z = wz (z * ONEi) false := by
 unfold fz
 show Ieee.double.nearest (decide (z < 0)) z.natAbs 0 = _
 rw [nearest_int]
 unfold wz
 have h1 : (z * ONEi).natAbs = z.natAbs * ONE := by rw [Int.natAbs_mul]; rfl
 have hp := one_posi
 rw [h1, Bool.and_false, Bool.or_false]
 congr 1
 refine decide_eq_decide.2 ⟨fun h => Int.mul_neg_of_neg_of_pos h hp, fun h => ?_⟩
 rcases Int.lt_or_le z 0 with c | c
 ·exact c
 ·have := Int.mul_nonneg c (Int.le_of_lt hp); omega
theorem fz_U (z : Int) : U (fz z) := by rw [fz_wz]; exact U_wz _ _
def iP (z : Int) : Int := pl (fz z)
theorem PU.part {p q : Int} {s m : Nat} (h : PU p (s * ONEi)) (k : PU q (m * ONEi)) (h0 : 0 < m) (hm : m ≤ 1073741824) (hs : s ≤ m) : PU (opP .quo p q) (V (qR s m) : Nat) := by
 obtain ⟨a, ua, fa, rfl, ea⟩ := h
 obtain ⟨b, ub, fb, rfl, eb⟩ := k
 have va : Fl.val 52 (rg a) = s * ONE := by rw [← un_abs, ea, Int.natAbs_mul]; rfl
 have vb : Fl.val 52 (rg b) = m * ONE := by rw [← un_abs, eb, Int.natAbs_mul]; rfl
 have hp := Nat.mul_pos h0 one_pos
 have hlt := (parts_back_near s m h0 hm hs).1
 have ef := div_gen a b ua ub fa fb (by rw [vb]; exact hp) (by
  rw [vb, Nat.pow_succ, ← one_pow]
  have : m * ONE ≤ 1073741824 * ONE := Nat.mul_le_mul_right _ hm
  have := one_pos
  omega)
 rw [va, vb, ← one_pow, rungM_scale _ _ _ one_pos] at ef
 have hw : rungM (s * ONE) m < 9223372036854775808 := Nat.lt_of_le_of_lt (rungM_le _ _) (by decide)
 refine ⟨_, U_word (sg a ^^ sg b) _ hw, ?_, ?_, ?_⟩
 ·unfold fin; rw [rg_word _ _ hw]; exact decide_eq_true hlt
 ·unfold opP
  rw [atW_pl a ua (fin_not_nan fa), atW_pl b ub (fin_not_nan fb), ef]
 ·rw [sgn_un, sg_word _ _ hw, rg_word _ _ hw]
  by_cases h1 : s = 0
  ·subst h1
   unfold qR
   rw [Nat.zero_mul, rungM_zero, show V 0 = 0 from Fl.val_zero 52, show Fl.val 52 0 = 0 from Fl.val_zero 52]
   split <;> rfl
  ·have sa : sg a = false := by
    cases hs : sg a
    ·rfl
    ·rw [sgn_un, if_pos hs, va] at ea
     have h2 := Nat.mul_pos (Nat.pos_of_ne_zero h1) one_pos
     have h3 : ((s * ONE : Nat) : Int) = s * ONEi := by unfold ONEi; exact Int.natCast_mul _ _
     omega
   have sb : sg b = false := by
    cases hs : sg b
    ·rfl
    ·rw [sgn_un, if_pos hs, vb] at eb
     have h3 : ((m * ONE : Nat) : Int) = m * ONEi := by unfold ONEi; exact Int.natCast_mul _ _
     omega
   rw [sa, sb]
   rfl
end Go.Proofs.YtlgencbldbpbdaaGreatDoor
namespace Go.Proofs.YtlgencbldbpbdaaGreatDoor
open Go.RowKit Fl
def flP (p : Int) : Int := if p = 9223372036854775807 ∨ p = 9218868437227405312 ∨ p = -9218868437227405313 then p else pl (flW (atW p))
def infP (p : Int) : Bool := decide (p = 9218868437227405312 ∨ p = -9218868437227405313)
def mP (n : Nat) (j : Nat) : Int := if j = 3 then opP .sub (iP n) (iP 1) else if j = 4 then opP .add (iP n) (iP 1) else iP n
def stA (n : Nat) (j : Nat) (x : Int) : Int := if j = 1 ∨ j = 4 then opP .add (flP (opP .mul x (iP n))) (iP 1) else flP (opP .mul x (iP n))
def stB (n : Nat) (j : Nat) (x : Int) (before : Bool) : Int :=
 if before = true ∧ infP (opP .mul x (iP n)) = false ∧ feqP (flP (opP .mul x (iP n))) (opP .mul x (iP n)) = true then opP .sub (stA n j x) (iP 1) else stA n j x
def stC (x s : Int) : Int := if fleP 0 x = true ∧ fltP s 0 = true then 0 else s
def stD (n : Nat) (j : Nat) (x s : Int) : Int := if fleP x (iP 1) = true ∧ fltP (mP n j) s = true then mP n j else s
def stepsP (n : Nat) (j : Nat) (x : Int) (before : Bool) : Int := opP .quo (stD n j x (stC x (stB n j x before))) (mP n j)
theorem PU.zero : PU 0 0 := ⟨0, by unfold U; decide, by decide, by decide, by
 rw [sgn_un, show rg 0 = 0 from rfl, Fl.val_zero]; rfl⟩
end Go.Proofs.YtlgencbldbpbdaaGreatDoor
