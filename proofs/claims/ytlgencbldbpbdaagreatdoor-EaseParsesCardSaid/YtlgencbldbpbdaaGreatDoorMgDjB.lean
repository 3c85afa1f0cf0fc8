/- Digits at a point: noughts ahead and behind change nothing; as what a row of digits is read; a number's own digits. Plain laws. Reading keeps the order of the digits. Plain laws. The shortest digits that are read as a number. Plain laws. -/
import Derived.Test.YtlgencbldbpbdaaGreatDoorMgFl
import Derived.Test.YtlgencbldbpbdaaGreatDoorMgDhE
import Derived.Lib.ItoaNum
namespace Go.Proofs.YtlgencbldbpbdaaGreatDoor
open Fl
theorem getD_app_left {l m : List Nat} {k : Nat} (h : k < l.length) : (l ++ m).getD k 0 = l.getD k 0 := by
 rw [List.getD, List.getD, List.getElem?_append_left h]
theorem te_behind (l : List Nat) (n f : Nat) (hf : f ≤ l.length) : ∀ k, k ≤ n → te (l ++ List.replicate n 48) f (l.length + k) = te l f l.length
 | 0, _ => by
   have h : ∀ j, j ≤ l.length → te (l ++ List.replicate n 48) f j = te l f j := fun j => by
    induction j with
    | zero => intro _; rfl
    | succ j ih =>
      intro hj
      rw [te, te, getD_app_left hj, ih (by omega)]
   exact h _ (Nat.le_refl _)
 | k + 1, hk => by
   have e : (l ++ List.replicate n 48).getD (l.length + k) 0 = 48 := by
    rw [List.getD, List.getElem?_append_right (by omega), show l.length + k - l.length = k by omega, List.getElem?_replicate, if_pos (by omega)]
    rfl
   rw [← Nat.add_assoc, te, if_pos ⟨by omega, e⟩]
   exact te_behind l n f hf k (by omega)
theorem lead_rep : ∀ n, lead (List.replicate n 48) = n
 | 0 => rfl
 | n + 1 => by rw [List.replicate_succ, lead, if_pos rfl, lead_rep n]
theorem lead_behind (n : Nat) : ∀ l : List Nat, lead l < l.length → lead (l ++ List.replicate n 48) = lead l
 | [], h => absurd h (Nat.lt_irrefl _)
 | x :: l, h => by
   rw [List.cons_append, lead, lead]
   by_cases hx : x = 48
   ·rw [if_pos hx, if_pos hx, lead_behind n l (by rw [lead, if_pos hx, List.length_cons] at h; omega)]
   ·rw [if_neg hx, if_neg hx]
theorem lead_all (n : Nat) : ∀ l : List Nat, lead l = l.length → lead (l ++ List.replicate n 48) = (l ++ List.replicate n 48).length
 | [], _ => by rw [List.nil_append, lead_rep, List.length_replicate]
 | x :: l, h => by
   rw [lead] at h
   by_cases hx : x = 48
   ·rw [if_pos hx, List.length_cons] at h
    rw [List.cons_append, lead, if_pos hx, lead_all n l (by omega), List.length_cons]
   ·rw [if_neg hx, List.length_cons] at h; omega
theorem strip_behind {l : List Nat} (n : Nat) (h : lead l < l.length) : stripD (l ++ List.replicate n 48) = stripD l := by
 have h2 := te_behind l n (lead l) (Nat.le_of_lt h) n (Nat.le_refl _)
 unfold stripD
 rw [lead_behind n l h, List.length_append, List.length_replicate, h2, List.take_append_of_le_length (te_le _ _ _)]
theorem read_behind (l : List Nat) (n : Nat) (p : Int) : readF (l ++ List.replicate n 48) p = readF l p := by
 rcases Nat.lt_or_ge (lead l) l.length with h | h
 ·unfold readF
  rw [strip_behind n h, lead_behind n l h]
 ·have h1 : lead l = l.length := Nat.le_antisymm (lead_le l) h
  unfold readF
  rw [if_pos (.inl (strip_nil (lead_all n l h1))), if_pos (.inl (strip_nil h1))]
theorem te_rep (l : List Nat) (f : Nat) : ∀ k, k ≤ l.length → l.take k = l.take (te l f k) ++ List.replicate (k - te l f k) 48
 | 0, _ => by rw [te, Nat.sub_self, List.replicate_zero, List.append_nil]
 | k + 1, hk => by
   have h0 := te_le l f k
   rw [te]
   by_cases h : f < k + 1 ∧ l.getD k 0 = 48
   ·rw [if_pos h]
    have e : l[k]? = some 48 := by
     have := h.2
     rw [List.getD, List.getElem?_eq_getElem hk] at this
     rw [List.getElem?_eq_getElem hk]
     exact congrArg some this
    rw [List.take_add_one, e, te_rep l f k (by omega), List.append_assoc, show k + 1 - te l f k = (k - te l f k) + 1 by omega, List.replicate_succ']
    rfl
   ·rw [if_neg h, Nat.sub_self, List.replicate_zero, List.append_nil]
theorem trim_rep (l : List Nat) (f : Nat) : l = l.take (te l f l.length) ++ List.replicate (l.length - te l f l.length) 48 := by
 have h := te_rep l f l.length (Nat.le_refl _)
 rwa [List.take_length] at h
def trimD (l : List Nat) : List Nat := l.take (te l 0 l.length)
theorem read_trim (l : List Nat) (p : Int) : readF (trimD l) p = readF l p := by
 conv => rhs; rw [trim_rep l 0]
 exact (read_behind _ _ _).symm
theorem dval_rep (l : List Nat) : ∀ n, dval (l ++ List.replicate n 48) = dval l * 10 ^ n
 | 0 => by rw [List.replicate_zero, List.append_nil, Nat.pow_zero, Nat.mul_one]
 | n + 1 => by rw [List.replicate_succ', ← List.append_assoc, dval_snoc, dval_rep l n, Nat.pow_succ, ← Nat.mul_assoc]; omega
theorem ratio_shift (X z : Nat) (e : Int) : rungM (X * 10 ^ e.toNat * 2 ^ K) (10 ^ (-e).toNat) = rungM (X * 10 ^ z * 10 ^ (e - z).toNat * 2 ^ K) (10 ^ (-(e - z)).toNat) := by
 generalize 2 ^ K = T
 have P0 : ∀ k : Nat, 0 < 10 ^ k := fun k => Nat.pow_pos (by decide)
 rcases Int.le_total (z : Int) e with h | h
 ·rw [show (-e).toNat = 0 by omega, show (-(e - z)).toNat = 0 by omega, Nat.mul_assoc X (10 ^ z), ← Nat.pow_add, show z + (e - z).toNat = e.toNat by omega]
 ·rcases Int.le_total 0 e with h0 | h0
  ·rw [show (-e).toNat = 0 by omega, show (e - z).toNat = 0 by omega, ← rungM_scale _ (10 ^ 0) (10 ^ (-(e - z)).toNat) (P0 _), Nat.pow_zero, Nat.one_mul, Nat.mul_one]
   congr 1
   rw [Nat.mul_right_comm, Nat.mul_assoc X, ← Nat.pow_add, show e.toNat + (-(e - z)).toNat = z by omega]
  ·rw [show e.toNat = 0 by omega, show (e - z).toNat = 0 by omega, ← rungM_scale _ (10 ^ (-e).toNat) (10 ^ z) (P0 _), ← Nat.pow_add, show (-e).toNat + z = (-(e - z)).toNat by omega, Nat.pow_zero, Nat.mul_one, Nat.mul_one]
   congr 1
   exact Nat.mul_right_comm _ _ _
theorem read_num {l : List Nat} {p : Int} (hl : l.length ≤ 800) (h0 : l.getD 0 0 ≠ 48) (hn : l ≠ []) (h1 : -400 ≤ p) (h2 : p ≤ 400) :
  readF l p = rungM (dval l * 10 ^ (p - l.length).toNat * 2 ^ K) (10 ^ (-(p - l.length)).toNat) := by
 have hle : lead l = 0 := by
  cases l with
  | nil => exact absurd rfl hn
  | cons x l =>
    have h0 : x ≠ 48 := h0
    rw [lead, if_neg h0]
 have hpos : 0 < l.length := List.length_pos_iff.2 hn
 have hst : stripD l = trimD l := by unfold stripD trimD; rw [hle, List.drop_zero]
 have hne : stripD l ≠ [] := by
  obtain ⟨r, hr⟩ := strip_some (l := l) (by omega)
  rw [hr]; exact List.cons_ne_nil _ _
 have hlen : (trimD l).length ≤ 800 := by
  unfold trimD
  rw [List.length_take]
  omega
 unfold readF
 rw [if_neg (fun e => e.elim hne (by omega)), hle, if_neg (by omega), if_neg (by omega), hst]
 have hc : cutD (trimD l) = trimD l := by unfold cutD; rw [if_neg (by omega)]
 rw [hc]
 have e := trim_rep l 0
 obtain ⟨z, hz⟩ : ∃ z, z = l.length - te l 0 l.length := ⟨_, rfl⟩
 rw [← hz] at e
 have e2 : l = trimD l ++ List.replicate z 48 := e
 have e3 : dval l = dval (trimD l) * 10 ^ z := by rw [← dval_rep, ← e2]
 have e4 : l.length = (trimD l).length + z := by
  have := congrArg List.length e2
  rw [List.length_append, List.length_replicate] at this
  exact this
 have h := ratio_shift (dval (trimD l)) z (p - (trimD l).length)
 rw [e3, e4]
 unfold numF
 rw [show p - ((0 : Nat) : Int) = p by omega, show p - (((trimD l).length + z : Nat) : Int) = p - (trimD l).length - z by omega]
 exact h
def dgs (d : Nat) : List Nat := (Lib.decDigits d).map UInt8.toNat
theorem dgs_small {d : Nat} (h : d < 10) : dgs d = [48 + d] := by
 unfold dgs
 rw [Lib.decDigits_one h, List.map_singleton, UInt8.toNat_ofNat', Nat.mod_eq_of_lt (by omega)]
theorem dgs_big {d : Nat} (h : ¬ d < 10) : dgs d = dgs (d / 10) ++ [48 + d % 10] := by
 unfold dgs
 rw [Lib.decDigits, dif_neg h, List.map_append, List.map_singleton, UInt8.toNat_ofNat', Nat.mod_eq_of_lt (by omega)]
theorem dgs_val (d : Nat) : dval (dgs d) = d := by
 induction d using Nat.strongRecOn with
 | ind d ih =>
   by_cases h : d < 10
   ·rw [dgs_small h]; show 0 * 10 + (48 + d - 48) = d; omega
   ·rw [dgs_big h, dval_snoc, ih (d / 10) (by omega)]; omega
theorem dgs_dg (d : Nat) : DG (dgs d) := by
 induction d using Nat.strongRecOn with
 | ind d ih =>
   by_cases h : d < 10
   ·rw [dgs_small h]
    intro x hx
    rcases List.mem_singleton.1 hx with rfl
    omega
   ·rw [dgs_big h]
    intro x hx
    rcases List.mem_append.1 hx with hx | hx
    ·exact ih (d / 10) (by omega) x hx
    ·rcases List.mem_singleton.1 hx with rfl
     omega
theorem dgs_len (d : Nat) : (dgs d).length = Lib.nDigits d := by unfold dgs; rw [List.length_map, Lib.decDigits_length]
theorem dgs_ne (d : Nat) : dgs d ≠ [] := by
 intro h
 have := dgs_len d
 rw [h] at this
 have := Lib.nDigits_pos d
 simp at *
 omega
theorem dgs_head (d : Nat) (h : 0 < d) : (dgs d).getD 0 0 ≠ 48 := by
 induction d using Nat.strongRecOn with
 | ind d ih =>
   by_cases h1 : d < 10
   ·rw [dgs_small h1]; show 48 + d ≠ 48; omega
   ·rw [dgs_big h1, getD_app_left (List.length_pos_iff.2 (dgs_ne _))]
    exact ih (d / 10) (by omega) (by omega)
theorem read_dgs {d : Nat} {p : Int} (h : 0 < d) (hl : Lib.nDigits d ≤ 800) (h1 : -400 ≤ p) (h2 : p ≤ 400) :
  readF (trimD (dgs d)) p = rungM (d * 10 ^ (p - Lib.nDigits d).toNat * 2 ^ K) (10 ^ (-(p - Lib.nDigits d)).toNat) := by
 rw [read_trim, read_num (by rw [dgs_len]; exact hl) (dgs_head d h) (dgs_ne d) h1 h2, dgs_val, dgs_len]
end Go.Proofs.YtlgencbldbpbdaaGreatDoor
namespace Go.Proofs.YtlgencbldbpbdaaGreatDoor
open Fl
theorem nd_le {x k : Nat} (h : x < 10 ^ k) (hk : 0 < k) : Lib.nDigits x ≤ k := by
 rcases Nat.lt_or_ge k (Lib.nDigits x) with c | c
 ·exfalso
  rcases Nat.eq_zero_or_pos x with h0 | h0
  ·subst h0
   rw [Lib.nDigits_small (by decide)] at c; omega
  ·have := Lib.nDigits_pos x
   have h2 := Lib.lt_pow_nDigits x
   have h3 : 10 ^ (Lib.nDigits x - 1) ≤ x := by
    rcases Nat.lt_or_ge x (10 ^ (Lib.nDigits x - 1)) with d | d
    ·exfalso
     obtain ⟨m, hm⟩ : ∃ m, Lib.nDigits x = m + 1 := ⟨Lib.nDigits x - 1, by omega⟩
     rw [hm, Nat.add_sub_cancel] at d
     obtain ⟨q, hq1, hq2⟩ : ∃ q, 10 ^ q ≤ x ∧ x < 10 ^ (q + 1) := by
      clear h h2 c hm d this hk
      induction x using Nat.strongRecOn with
      | ind x ih =>
        by_cases hx : x < 10
        ·exact ⟨0, by rw [Nat.pow_zero]; exact h0, by simpa using hx⟩
        ·obtain ⟨q, a, b⟩ := ih (x / 10) (by omega) (by omega)
         exact ⟨q + 1, by rw [Nat.pow_succ]; omega, by rw [Nat.pow_succ]; omega⟩
     have h5 := Lib.nDigits_unique q x hq1 hq2
     have : q = m := by omega
     subst this
     omega
    ·exact d
   have h4 := Nat.pow_le_pow_right (show 0 < 10 by decide) (show k ≤ Lib.nDigits x - 1 by omega)
   omega
 ·exact c
end Go.Proofs.YtlgencbldbpbdaaGreatDoor
namespace Go.Proofs.YtlgencbldbpbdaaGreatDoor
open Fl
def TK : Nat := 2 ^ K
theorem TK_pos : 0 < TK := Nat.two_pow_pos _
def le10 (p : Int) (v : Nat) : Bool := decide (10 ^ p.toNat * TK ≤ v * 10 ^ (-p).toNat)
def IsP (v : Nat) (p : Int) : Prop := le10 (p - 1) v = true ∧ le10 p v = false
def dnF (f : Int → Bool) : Nat → Int → Int
 | 0, p => p
 | k + 1, p => if f (p - 1) = true then p else dnF f k (p - 1)
theorem dnF_spec (f : Int → Bool) : ∀ (k : Nat) (p : Int), f p = false → f (p - k) = true → f (dnF f k p - 1) = true ∧ f (dnF f k p) = false
 | 0, p, h1, h2 => by
   rw [show p - ((0 : Nat) : Int) = p by omega, h1] at h2; cases h2
 | k + 1, p, h1, h2 => by
   rw [dnF]
   by_cases h : f (p - 1) = true
   ·rw [if_pos h]; exact ⟨h, h1⟩
   ·rw [if_neg h]
    exact dnF_spec f k (p - 1) (by simpa using h) (by rw [show p - 1 - (k : Int) = p - ((k + 1 : Nat) : Int) by omega]; exact h2)
def placeF (v : Nat) : Int := dnF (fun p => le10 p v) 1000 400
theorem ten_pos (k : Nat) : 0 < 10 ^ k := Nat.pow_pos (by decide)
theorem le10_iff {p : Int} {v : Nat} (i j : Nat) (h : (i : Int) - (j : Int) = p) : le10 p v = true ↔ 10 ^ i * TK ≤ v * 10 ^ j := by
 unfold le10
 rw [decide_eq_true_eq]
 obtain ⟨c, hc⟩ : ∃ c, i = p.toNat + c := ⟨i - p.toNat, by omega⟩
 have hj : j = (-p).toNat + c := by omega
 rw [hc, hj, Nat.pow_add, Nat.pow_add, ← Nat.mul_assoc, Nat.mul_right_comm]
 exact ⟨fun h => Nat.mul_le_mul_right _ h, fun h => Nat.le_of_mul_le_mul_right h (ten_pos c)⟩
theorem le10_anti {p q : Int} {v : Nat} (h : q ≤ p) (hp : le10 p v = true) : le10 q v = true := by
 obtain ⟨c, hc⟩ : ∃ c : Nat, p = q + c := ⟨(p - q).toNat, by omega⟩
 have h1 := (le10_iff (v := v) (q.toNat + c) (-q).toNat (by omega : _ = p)).1 hp
 refine (le10_iff q.toNat (-q).toNat (by omega)).2 (Nat.le_trans ?_ h1)
 rw [Nat.pow_add]
 exact Nat.mul_le_mul_right _ (Nat.le_mul_of_pos_right _ (ten_pos c))
theorem IsP.unique {v : Nat} {p q : Int} (h1 : IsP v p) (h2 : IsP v q) : p = q := by
 rcases Int.lt_trichotomy p q with h | h | h
 ·have := le10_anti (show p ≤ q - 1 by omega) h2.1
  rw [h1.2] at this; cases this
 ·exact h
 ·have := le10_anti (show q ≤ p - 1 by omega) h1.1
  rw [h2.2] at this; cases this
theorem ten_eight (m : Nat) : 2 ^ (3 * m) ≤ 10 ^ m := by
 rw [Nat.pow_mul]
 exact Nat.pow_le_pow_left (by decide) m
theorem le10_low {v : Nat} (h : 0 < v) : le10 (-360) v = true := by
 obtain ⟨m, hm⟩ : ∃ m, m = 360 := ⟨_, rfl⟩
 refine (le10_iff 0 m (by omega)).2 ?_
 rw [Nat.pow_zero, Nat.one_mul]
 refine Nat.le_trans (Nat.le_trans (?_ : TK ≤ 2 ^ (3 * m)) (ten_eight m)) (Nat.le_mul_of_pos_left _ h)
 unfold TK
 refine Nat.pow_le_pow_right (by decide) ?_
 unfold K; omega
theorem le10_high {v : Nat} (h : v ≤ V INF) : le10 350 v = false := by
 obtain ⟨m, hm⟩ : ∃ m, m = 350 := ⟨_, rfl⟩
 rcases hb : le10 350 v with _ | _
 ·rfl
 ·exfalso
  have h1 := (le10_iff m 0 (by omega)).1 hb
  rw [Nat.pow_zero, Nat.mul_one] at h1
  have h2 : V INF = 2 ^ 52 * 2 ^ pE INF := by
   unfold V; rw [val_parts]
   congr 1
  have h3 : pE INF = 2046 := by unfold pE INF; decide
  rw [h3] at h2
  obtain ⟨z, hz⟩ : ∃ z, z = 2046 := ⟨_, rfl⟩
  rw [← hz, ← Nat.pow_add] at h2
  have h4 := Nat.mul_le_mul_right TK (ten_eight m)
  have h6 : 2 ^ (3 * m) * TK = 2 ^ (3 * m + K) := by rw [Nat.pow_add]; rfl
  have h5 : 2 ^ (52 + z) < 2 ^ (3 * m + K) := Nat.pow_lt_pow_right (by decide) (by unfold K; omega)
  rw [h6] at h4
  generalize 2 ^ (52 + z) = w1 at *
  generalize 2 ^ (3 * m + K) = w2 at *
  omega
theorem place_is {v : Nat} (h0 : 0 < v) (h1 : v ≤ V INF) : IsP v (placeF v) := by
 have a := le10_high h1
 have b := le10_low h0
 refine dnF_spec (fun p => le10 p v) 1000 400 ?_ (le10_anti (by omega) b)
 show le10 400 v = false
 rcases hb : le10 400 v with _ | _
 ·rfl
 ·rw [le10_anti (show (350 : Int) ≤ 400 by omega) hb] at a; cases a
theorem IsP.range {v : Nat} {p : Int} (h : IsP v p) (h0 : 0 < v) (h1 : v ≤ V INF) : -359 ≤ p ∧ p ≤ 350 := by
 have a := le10_high h1
 have b := le10_low h0
 constructor
 ·rcases Int.lt_or_le p (-359) with c | c
  ·have := le10_anti (show p ≤ -360 by omega) b
   rw [h.2] at this; cases this
  ·exact c
 ·rcases Int.lt_or_le 350 p with c | c
  ·have := le10_anti (show (350 : Int) ≤ p - 1 by omega) h.1
   rw [a] at this; cases this
  ·exact c
def numS (v : Nat) (p : Int) (n : Nat) : Nat := v * 10 ^ (n - p).toNat
def denS (p : Int) (n : Nat) : Nat := TK * 10 ^ (p - n).toNat
def qS (v : Nat) (p : Int) (n : Nat) : Nat := numS v p n / denS p n
def rS (v : Nat) (p : Int) (n : Nat) : Nat := numS v p n % denS p n
theorem den_pos (p : Int) (n : Nat) : 0 < denS p n := Nat.mul_pos TK_pos (ten_pos _)
theorem q_range {v : Nat} {p : Int} (h : IsP v p) {n : Nat} (hn : 1 ≤ n) : 10 ^ (n - 1) ≤ qS v p n ∧ qS v p n < 10 ^ n := by
 have a := (le10_iff (v := v) ((p - n).toNat + (n - 1)) (n - p).toNat (by omega : _ = p - 1)).1 h.1
 have b : ¬ 10 ^ ((p - n).toNat + n) * TK ≤ v * 10 ^ (n - p).toNat := fun c => by
  have := (le10_iff (v := v) ((p - n).toNat + n) (n - p).toNat (by omega : _ = p)).2 c
  rw [h.2] at this; cases this
 unfold qS numS denS
 have dp := den_pos p n
 unfold denS at dp
 constructor
 ·rw [Nat.le_div_iff_mul_le dp]
  refine Nat.le_trans (Nat.le_of_eq ?_) a
  rw [Nat.pow_add, Nat.mul_comm (TK), ← Nat.mul_assoc, Nat.mul_comm (10 ^ (n - 1))]
 ·rw [Nat.div_lt_iff_lt_mul dp]
  refine Nat.lt_of_lt_of_le (Nat.not_le.1 b) (Nat.le_of_eq ?_)
  rw [Nat.pow_add, Nat.mul_comm (TK), ← Nat.mul_assoc, Nat.mul_comm (10 ^ n)]
def rdS (b : Nat) (p : Int) (n d : Nat) : Bool := decide (rungM (d * 10 ^ (p - n).toNat * TK) (10 ^ (n - p).toNat) = b)
def selS (b : Nat) (p : Int) (n : Nat) : Option Nat :=
 if rdS b p n (qS (V b) p n) = true then
  if rdS b p n (qS (V b) p n + 1) = true ∧ (denS p n < 2 * rS (V b) p n ∨ (denS p n = 2 * rS (V b) p n ∧ qS (V b) p n % 2 = 1)) then some (qS (V b) p n + 1) else some (qS (V b) p n)
 else if rdS b p n (qS (V b) p n + 1) = true then some (qS (V b) p n + 1) else none
def srchF (f : Nat → Option Nat) : Nat → Nat → Nat × Nat
 | 0, n => (0, n)
 | k + 1, n => match f n with
    | some d => (d, n)
    | none => srchF f k (n + 1)
theorem srchF_some {f : Nat → Option Nat} {k n d : Nat} (h : f n = some d) : srchF f (k + 1) n = (d, n) := by rw [srchF, h]
theorem srchF_none {f : Nat → Option Nat} {k n : Nat} (h : f n = none) : srchF f (k + 1) n = srchF f k (n + 1) := by rw [srchF, h]
def srchS (b : Nat) (p : Int) (k n : Nat) : Nat × Nat := srchF (selS b p) k n
theorem srch_some {b : Nat} {p : Int} {k n d : Nat} (h : selS b p n = some d) : srchS b p (k + 1) n = (d, n) := srchF_some h
theorem srch_none {b : Nat} {p : Int} {k n : Nat} (h : selS b p n = none) : srchS b p (k + 1) n = srchS b p k (n + 1) := srchF_none h
def shS (b : Nat) : Nat × Nat := srchS b (placeF (V b)) 17 1
def shD (b : Nat) : List Nat := if b = 0 ∨ INF ≤ b then [] else trimD (dgs (shS b).1)
def shP (b : Nat) : Int := if b = 0 ∨ INF ≤ b then 0 else placeF (V b) + Lib.nDigits (shS b).1 - (shS b).2
theorem rds_S {b : Nat} {p : Int} {n d : Nat} (h0 : 0 < b) (h1 : b < INF) : rdS b p n d = true ↔ rdsP (d * 10 ^ (p - n).toNat * TK) (10 ^ (n - p).toNat) b := by
 unfold rdS
 rw [decide_eq_true_eq]
 exact (rds_iff _ _ _ (ten_pos _) h0 h1).symm
theorem sel_17 {b : Nat} {p : Int} (h0 : 0 < b) (h1 : b < INF) (hp : IsP (V b) p) : ∃ d, selS b p 17 = some d := by
 obtain ⟨c, rfl⟩ : ∃ c, b = c + 1 := ⟨b - 1, by omega⟩
 have hq := (q_range hp (n := 17) (by decide)).1
 have up := V_up (c + 1)
 have dn := V_down c
 have l1 := V_lt (Nat.lt_succ_self c)
 have l2 := V_lt (Nat.lt_succ_self (c + 1))
 have key : rdS (c + 1) p 17 (qS (V (c + 1)) p 17) = true ∨ rdS (c + 1) p 17 (qS (V (c + 1)) p 17 + 1) = true := by
  have e53 : (2 : Nat) ^ 53 = 9007199254740992 := by decide
  have e16 : (10 : Nat) ^ (17 - 1) = 10000000000000000 := by decide
  rw [e53] at up dn
  rw [e16] at hq
  rw [rds_S h0 h1, rds_S h0 h1]
  unfold rdsP
  rw [Nat.add_sub_cancel]
  have Y0 := ten_pos ((17 : Nat) - p).toNat
  have hz := den_pos p 17
  have hd := Nat.div_add_mod (numS (V (c + 1)) p 17) (denS p 17)
  have hm := Nat.mod_lt (numS (V (c + 1)) p 17) hz
  have q1 : qS (V (c + 1)) p 17 = numS (V (c + 1)) p 17 / denS p 17 := rfl
  rw [← q1] at hd
  have eN : numS (V (c + 1)) p 17 = V (c + 1) * 10 ^ ((17 : Nat) - p).toNat := rfl
  have eX : ∀ d, d * 10 ^ (p - (17 : Nat)).toNat * TK = denS p 17 * d := fun d => by
   unfold denS
   rw [Nat.mul_assoc, Nat.mul_comm d, Nat.mul_comm (TK)]
  rw [eX, eX]
  rw [eN] at hd hm
  clear eX q1
  generalize qS (V (c + 1)) p 17 = q at *
  generalize 10 ^ ((17 : Nat) - p).toNat = Y at *
  generalize V (c + 1) * Y % denS p 17 = r at *
  generalize denS p 17 = Z at *
  generalize V (c + 1) = v at *
  generalize V c = v0 at *
  generalize V (c + 1 + 1) = v1 at *
  have k1 : Z * 10000000000000000 ≤ Z * q := Nat.mul_le_mul_left _ hq
  have k2 : v * Y ≤ 9007199254740992 * (v1 - v) * Y := Nat.mul_le_mul_right _ (Nat.le_of_lt up)
  have k3 : v * Y ≤ 9007199254740992 * (v - v0) * Y := Nat.mul_le_mul_right _ dn
  rw [Nat.mul_assoc] at k2 k3
  have k4 : (v1 - v) * Y = v1 * Y - v * Y := Nat.sub_mul _ _ _
  have k5 : (v - v0) * Y = v * Y - v0 * Y := Nat.sub_mul _ _ _
  have k6 : v * Y < v1 * Y := Nat.mul_lt_mul_of_pos_right l2 Y0
  have k7 : v0 * Y < v * Y := Nat.mul_lt_mul_of_pos_right l1 Y0
  rw [Nat.add_mul, Nat.add_mul, Nat.mul_add, Nat.mul_one]
  rw [k4] at k2
  rw [k5] at k3
  clear k4 k5 up dn l1 l2 hq
  generalize Z * q = m at *
  generalize v * Y = a at *
  generalize v0 * Y = a0 at *
  generalize v1 * Y = a1 at *
  by_cases g : 2 * r ≤ Z
  ·left; omega
  ·right; omega
 unfold selS
 by_cases k1 : rdS (c + 1) p 17 (qS (V (c + 1)) p 17) = true
 ·rw [if_pos k1]
  split
  ·exact ⟨_, rfl⟩
  ·exact ⟨_, rfl⟩
 ·rw [if_neg k1, if_pos (key.resolve_left k1)]
  exact ⟨_, rfl⟩
theorem sel_read {b : Nat} {p : Int} {n d : Nat} (h : selS b p n = some d) : rdS b p n d = true ∧ (d = qS (V b) p n ∨ d = qS (V b) p n + 1) := by
 unfold selS at h
 by_cases k1 : rdS b p n (qS (V b) p n) = true
 ·rw [if_pos k1] at h
  by_cases k2 : rdS b p n (qS (V b) p n + 1) = true ∧ (denS p n < 2 * rS (V b) p n ∨ (denS p n = 2 * rS (V b) p n ∧ qS (V b) p n % 2 = 1))
  ·rw [if_pos k2] at h
   obtain rfl := Option.some.inj h
   exact ⟨k2.1, .inr rfl⟩
  ·rw [if_neg k2] at h
   obtain rfl := Option.some.inj h
   exact ⟨k1, .inl rfl⟩
 ·rw [if_neg k1] at h
  by_cases k2 : rdS b p n (qS (V b) p n + 1) = true
  ·rw [if_pos k2] at h
   obtain rfl := Option.some.inj h
   exact ⟨k2, .inr rfl⟩
  ·rw [if_neg k2] at h; cases h
theorem srch_ends {b : Nat} {p : Int} (h0 : 0 < b) (h1 : b < INF) (hp : IsP (V b) p) : ∀ k n, n + k = 18 → 1 ≤ n → n ≤ 17 →
  ∃ d m, srchS b p k n = (d, m) ∧ n ≤ m ∧ m ≤ 17 ∧ selS b p m = some d ∧ ∀ i, n ≤ i → i < m → selS b p i = none
 | 0, n, e, _, h => by omega
 | k + 1, n, e, hn, h => by
  cases hs : selS b p n with
  | some d => exact ⟨d, n, srch_some hs, Nat.le_refl _, h, hs, fun i a b => by omega⟩
  | none =>
    have h17 : n ≠ 17 := fun e => by
     subst e
     obtain ⟨d, hd⟩ := sel_17 h0 h1 hp
     rw [hd] at hs; cases hs
    obtain ⟨d, m, a1, a2, a3, a4, a5⟩ := srch_ends h0 h1 hp k (n + 1) (by omega) (by omega) (by omega)
    refine ⟨d, m, by rw [srch_none hs]; exact a1, by omega, a3, a4, fun i b1 b2 => ?_⟩
    rcases Nat.lt_or_eq_of_le b1 with c | c
    ·exact a5 i c b2
    ·subst c; exact hs
end Go.Proofs.YtlgencbldbpbdaaGreatDoor
