/- The shortest digits that are read as a number. Plain laws. -/
import Derived.Test.YtlgencbldbpbdaaGreatDoorMgDjB
namespace Go.Proofs.YtlgencbldbpbdaaGreatDoor
open Fl
def TK : Nat := 2 ^ K
theorem TK_pos : 0 < TK := Nat.two_pow_pos _
/-- is ten to p at most v units -/
def le10 (p : Int) (v : Nat) : Bool := decide (10 ^ p.toNat * TK ≤ v * 10 ^ (-p).toNat)
def IsP (v : Nat) (p : Int) : Prop := le10 (p - 1) v = true ∧ le10 p v = false
def dnF (f : Int → Bool) : Nat → Int → Int
  | 0, p => p
  | k + 1, p => if f (p - 1) = true then p else dnF f k (p - 1)
theorem dnF_spec (f : Int → Bool) : ∀ (k : Nat) (p : Int), f p = false → f (p - k) = true → f (dnF f k p - 1) = true ∧ f (dnF f k p) = false
  | 0, p, h1, h2 => by
    rw [show p - ((0 : Nat) : Int) = p by omega, h1] at h2; cases h2
  | k + 1, p, h1, h2 => by
    rw [dnF]
    by_cases h : f (p - 1) = true
    · rw [if_pos h]; exact ⟨h, h1⟩
    · rw [if_neg h]
      exact dnF_spec f k (p - 1) (by simpa using h) (by rw [show p - 1 - (k : Int) = p - ((k + 1 : Nat) : Int) by omega]; exact h2)
def placeF (v : Nat) : Int := dnF (fun p => le10 p v) 1000 400
theorem ten_pos (k : Nat) : 0 < 10 ^ k := Nat.pow_pos (by decide)
/-- the same, the powers scaled -/
theorem le10_iff {p : Int} {v : Nat} (i j : Nat) (h : (i : Int) - (j : Int) = p) : le10 p v = true ↔ 10 ^ i * TK ≤ v * 10 ^ j := by
  unfold le10
  rw [decide_eq_true_eq]
  obtain ⟨c, hc⟩ : ∃ c, i = p.toNat + c := ⟨i - p.toNat, by omega⟩
  have hj : j = (-p).toNat + c := by omega
  rw [hc, hj, Nat.pow_add, Nat.pow_add, ← Nat.mul_assoc, Nat.mul_right_comm]
  exact ⟨fun h => Nat.mul_le_mul_right _ h, fun h => Nat.le_of_mul_le_mul_right h (ten_pos c)⟩
theorem le10_anti {p q : Int} {v : Nat} (h : q ≤ p) (hp : le10 p v = true) : le10 q v = true := by
  obtain ⟨c, hc⟩ : ∃ c : Nat, p = q + c := ⟨(p - q).toNat, by omega⟩
  have h1 := (le10_iff (v := v) (q.toNat + c) (-q).toNat (by omega : _ = p)).1 hp
  refine (le10_iff q.toNat (-q).toNat (by omega)).2 (Nat.le_trans ?_ h1)
  rw [Nat.pow_add]
  exact Nat.mul_le_mul_right _ (Nat.le_mul_of_pos_right _ (ten_pos c))
theorem IsP.unique {v : Nat} {p q : Int} (h1 : IsP v p) (h2 : IsP v q) : p = q := by
  rcases Int.lt_trichotomy p q with h | h | h
  · have := le10_anti (show p ≤ q - 1 by omega) h2.1
    rw [h1.2] at this; cases this
  · exact h
  · have := le10_anti (show q ≤ p - 1 by omega) h1.1
    rw [h2.2] at this; cases this
theorem ten_eight (m : Nat) : 2 ^ (3 * m) ≤ 10 ^ m := by
  rw [Nat.pow_mul]
  exact Nat.pow_le_pow_left (by decide) m
theorem le10_low {v : Nat} (h : 0 < v) : le10 (-360) v = true := by
  obtain ⟨m, hm⟩ : ∃ m, m = 360 := ⟨_, rfl⟩
  refine (le10_iff 0 m (by omega)).2 ?_
  rw [Nat.pow_zero, Nat.one_mul]
  refine Nat.le_trans (Nat.le_trans (?_ : TK ≤ 2 ^ (3 * m)) (ten_eight m)) (Nat.le_mul_of_pos_left _ h)
  unfold TK
  refine Nat.pow_le_pow_right (by decide) ?_
  unfold K; omega
theorem le10_high {v : Nat} (h : v ≤ V INF) : le10 350 v = false := by
  obtain ⟨m, hm⟩ : ∃ m, m = 350 := ⟨_, rfl⟩
  rcases hb : le10 350 v with _ | _
  · rfl
  · exfalso
    have h1 := (le10_iff m 0 (by omega)).1 hb
    rw [Nat.pow_zero, Nat.mul_one] at h1
    have h2 : V INF = 2 ^ 52 * 2 ^ pE INF := by
      unfold V; rw [val_parts]
      congr 1
    have h3 : pE INF = 2046 := by unfold pE INF; decide
    rw [h3] at h2
    obtain ⟨z, hz⟩ : ∃ z, z = 2046 := ⟨_, rfl⟩
    rw [← hz, ← Nat.pow_add] at h2
    have h4 := Nat.mul_le_mul_right TK (ten_eight m)
    have h6 : 2 ^ (3 * m) * TK = 2 ^ (3 * m + K) := by rw [Nat.pow_add]; rfl
    have h5 : 2 ^ (52 + z) < 2 ^ (3 * m + K) := Nat.pow_lt_pow_right (by decide) (by unfold K; omega)
    rw [h6] at h4
    generalize 2 ^ (52 + z) = w1 at *
    generalize 2 ^ (3 * m + K) = w2 at *
    omega
theorem place_is {v : Nat} (h0 : 0 < v) (h1 : v ≤ V INF) : IsP v (placeF v) := by
  have a := le10_high h1
  have b := le10_low h0
  refine dnF_spec (fun p => le10 p v) 1000 400 ?_ (le10_anti (by omega) b)
  show le10 400 v = false
  rcases hb : le10 400 v with _ | _
  · rfl
  · rw [le10_anti (show (350 : Int) ≤ 400 by omega) hb] at a; cases a
theorem IsP.range {v : Nat} {p : Int} (h : IsP v p) (h0 : 0 < v) (h1 : v ≤ V INF) : -359 ≤ p ∧ p ≤ 350 := by
  have a := le10_high h1
  have b := le10_low h0
  constructor
  · rcases Int.lt_or_le p (-359) with c | c
    · have := le10_anti (show p ≤ -360 by omega) b
      rw [h.2] at this; cases this
    · exact c
  · rcases Int.lt_or_le 350 p with c | c
    · have := le10_anti (show (350 : Int) ≤ p - 1 by omega) h.1
      rw [a] at this; cases this
    · exact c
def numS (v : Nat) (p : Int) (n : Nat) : Nat := v * 10 ^ (n - p).toNat
def denS (p : Int) (n : Nat) : Nat := TK * 10 ^ (p - n).toNat
def qS (v : Nat) (p : Int) (n : Nat) : Nat := numS v p n / denS p n
def rS (v : Nat) (p : Int) (n : Nat) : Nat := numS v p n % denS p n
theorem den_pos (p : Int) (n : Nat) : 0 < denS p n := Nat.mul_pos TK_pos (ten_pos _)
theorem q_range {v : Nat} {p : Int} (h : IsP v p) {n : Nat} (hn : 1 ≤ n) : 10 ^ (n - 1) ≤ qS v p n ∧ qS v p n < 10 ^ n := by
  have a := (le10_iff (v := v) ((p - n).toNat + (n - 1)) (n - p).toNat (by omega : _ = p - 1)).1 h.1
  have b : ¬ 10 ^ ((p - n).toNat + n) * TK ≤ v * 10 ^ (n - p).toNat := fun c => by
    have := (le10_iff (v := v) ((p - n).toNat + n) (n - p).toNat (by omega : _ = p)).2 c
    rw [h.2] at this; cases this
  unfold qS numS denS
  have dp := den_pos p n
  unfold denS at dp
  constructor
  · rw [Nat.le_div_iff_mul_le dp]
    refine Nat.le_trans (Nat.le_of_eq ?_) a
    rw [Nat.pow_add, Nat.mul_comm (TK), ← Nat.mul_assoc, Nat.mul_comm (10 ^ (n - 1))]
  · rw [Nat.div_lt_iff_lt_mul dp]
    refine Nat.lt_of_lt_of_le (Nat.not_le.1 b) (Nat.le_of_eq ?_)
    rw [Nat.pow_add, Nat.mul_comm (TK), ← Nat.mul_assoc, Nat.mul_comm (10 ^ n)]
/-- is d in place n read as the number -/
def rdS (b : Nat) (p : Int) (n d : Nat) : Bool := decide (rungM (d * 10 ^ (p - n).toNat * TK) (10 ^ (n - p).toNat) = b)
def selS (b : Nat) (p : Int) (n : Nat) : Option Nat :=
  if rdS b p n (qS (V b) p n) = true then
    if rdS b p n (qS (V b) p n + 1) = true ∧ (denS p n < 2 * rS (V b) p n ∨ (denS p n = 2 * rS (V b) p n ∧ qS (V b) p n % 2 = 1)) then some (qS (V b) p n + 1) else some (qS (V b) p n)
  else if rdS b p n (qS (V b) p n + 1) = true then some (qS (V b) p n + 1) else none
def srchF (f : Nat → Option Nat) : Nat → Nat → Nat × Nat
  | 0, n => (0, n)
  | k + 1, n => match f n with
    | some d => (d, n)
    | none => srchF f k (n + 1)
theorem srchF_some {f : Nat → Option Nat} {k n d : Nat} (h : f n = some d) : srchF f (k + 1) n = (d, n) := by rw [srchF, h]
theorem srchF_none {f : Nat → Option Nat} {k n : Nat} (h : f n = none) : srchF f (k + 1) n = srchF f k (n + 1) := by rw [srchF, h]
def srchS (b : Nat) (p : Int) (k n : Nat) : Nat × Nat := srchF (selS b p) k n
theorem srch_some {b : Nat} {p : Int} {k n d : Nat} (h : selS b p n = some d) : srchS b p (k + 1) n = (d, n) := srchF_some h
theorem srch_none {b : Nat} {p : Int} {k n : Nat} (h : selS b p n = none) : srchS b p (k + 1) n = srchS b p k (n + 1) := srchF_none h
/-- the digits and the place of the last -/
def shS (b : Nat) : Nat × Nat := srchS b (placeF (V b)) 17 1
def shD (b : Nat) : List Nat := if b = 0 ∨ INF ≤ b then [] else trimD (dgs (shS b).1)
def shP (b : Nat) : Int := if b = 0 ∨ INF ≤ b then 0 else placeF (V b) + Lib.nDigits (shS b).1 - (shS b).2
theorem rds_S {b : Nat} {p : Int} {n d : Nat} (h0 : 0 < b) (h1 : b < INF) : rdS b p n d = true ↔ rdsP (d * 10 ^ (p - n).toNat * TK) (10 ^ (n - p).toNat) b := by
  unfold rdS
  rw [decide_eq_true_eq]
  exact (rds_iff _ _ _ (ten_pos _) h0 h1).symm
/-- seventeen digits serve -/
theorem sel_17 {b : Nat} {p : Int} (h0 : 0 < b) (h1 : b < INF) (hp : IsP (V b) p) : ∃ d, selS b p 17 = some d := by
  obtain ⟨c, rfl⟩ : ∃ c, b = c + 1 := ⟨b - 1, by omega⟩
  have hq := (q_range hp (n := 17) (by decide)).1
  have up := V_up (c + 1)
  have dn := V_down c
  have l1 := V_lt (Nat.lt_succ_self c)
  have l2 := V_lt (Nat.lt_succ_self (c + 1))
  have key : rdS (c + 1) p 17 (qS (V (c + 1)) p 17) = true ∨ rdS (c + 1) p 17 (qS (V (c + 1)) p 17 + 1) = true := by
    have e53 : (2 : Nat) ^ 53 = 9007199254740992 := by decide
    have e16 : (10 : Nat) ^ (17 - 1) = 10000000000000000 := by decide
    rw [e53] at up dn
    rw [e16] at hq
    rw [rds_S h0 h1, rds_S h0 h1]
    unfold rdsP
    rw [Nat.add_sub_cancel]
    have Y0 := ten_pos ((17 : Nat) - p).toNat
    have hz := den_pos p 17
    have hd := Nat.div_add_mod (numS (V (c + 1)) p 17) (denS p 17)
    have hm := Nat.mod_lt (numS (V (c + 1)) p 17) hz
    have q1 : qS (V (c + 1)) p 17 = numS (V (c + 1)) p 17 / denS p 17 := rfl
    rw [← q1] at hd
    have eN : numS (V (c + 1)) p 17 = V (c + 1) * 10 ^ ((17 : Nat) - p).toNat := rfl
    have eX : ∀ d, d * 10 ^ (p - (17 : Nat)).toNat * TK = denS p 17 * d := fun d => by
      unfold denS
      rw [Nat.mul_assoc, Nat.mul_comm d, Nat.mul_comm (TK)]
    rw [eX, eX]
    rw [eN] at hd hm
    clear eX q1
    generalize qS (V (c + 1)) p 17 = q at *
    generalize 10 ^ ((17 : Nat) - p).toNat = Y at *
    generalize V (c + 1) * Y % denS p 17 = r at *
    generalize denS p 17 = Z at *
    generalize V (c + 1) = v at *
    generalize V c = v0 at *
    generalize V (c + 1 + 1) = v1 at *
    have k1 : Z * 10000000000000000 ≤ Z * q := Nat.mul_le_mul_left _ hq
    have k2 : v * Y ≤ 9007199254740992 * (v1 - v) * Y := Nat.mul_le_mul_right _ (Nat.le_of_lt up)
    have k3 : v * Y ≤ 9007199254740992 * (v - v0) * Y := Nat.mul_le_mul_right _ dn
    rw [Nat.mul_assoc] at k2 k3
    have k4 : (v1 - v) * Y = v1 * Y - v * Y := Nat.sub_mul _ _ _
    have k5 : (v - v0) * Y = v * Y - v0 * Y := Nat.sub_mul _ _ _
    have k6 : v * Y < v1 * Y := Nat.mul_lt_mul_of_pos_right l2 Y0
    have k7 : v0 * Y < v * Y := Nat.mul_lt_mul_of_pos_right l1 Y0
    rw [Nat.add_mul, Nat.add_mul, Nat.mul_add, Nat.mul_one]
    rw [k4] at k2
    rw [k5] at k3
    clear k4 k5 up dn l1 l2 hq
    generalize Z * q = m at *
    generalize v * Y = a at *
    generalize v0 * Y = a0 at *
    generalize v1 * Y = a1 at *
    by_cases g : 2 * r ≤ Z
    · left; omega
    · right; omega
  unfold selS
  by_cases k1 : rdS (c + 1) p 17 (qS (V (c + 1)) p 17) = true
  · rw [if_pos k1]
    split
    · exact ⟨_, rfl⟩
    · exact ⟨_, rfl⟩
  · rw [if_neg k1, if_pos (key.resolve_left k1)]
    exact ⟨_, rfl⟩
/-- what is chosen is read as the number -/
theorem sel_read {b : Nat} {p : Int} {n d : Nat} (h : selS b p n = some d) : rdS b p n d = true ∧ (d = qS (V b) p n ∨ d = qS (V b) p n + 1) := by
  unfold selS at h
  by_cases k1 : rdS b p n (qS (V b) p n) = true
  · rw [if_pos k1] at h
    by_cases k2 : rdS b p n (qS (V b) p n + 1) = true ∧ (denS p n < 2 * rS (V b) p n ∨ (denS p n = 2 * rS (V b) p n ∧ qS (V b) p n % 2 = 1))
    · rw [if_pos k2] at h
      obtain rfl := Option.some.inj h
      exact ⟨k2.1, .inr rfl⟩
    · rw [if_neg k2] at h
      obtain rfl := Option.some.inj h
      exact ⟨k1, .inl rfl⟩
  · rw [if_neg k1] at h
    by_cases k2 : rdS b p n (qS (V b) p n + 1) = true
    · rw [if_pos k2] at h
      obtain rfl := Option.some.inj h
      exact ⟨k2, .inr rfl⟩
    · rw [if_neg k2] at h; cases h
/-- where the search ends -/
theorem srch_ends {b : Nat} {p : Int} (h0 : 0 < b) (h1 : b < INF) (hp : IsP (V b) p) : ∀ k n, n + k = 18 → 1 ≤ n → n ≤ 17 →
    ∃ d m, srchS b p k n = (d, m) ∧ n ≤ m ∧ m ≤ 17 ∧ selS b p m = some d ∧ ∀ i, n ≤ i → i < m → selS b p i = none
  | 0, n, e, _, h => by omega
  | k + 1, n, e, hn, h => by
    cases hs : selS b p n with
    | some d => exact ⟨d, n, srch_some hs, Nat.le_refl _, h, hs, fun i a b => by omega⟩
    | none =>
      have h17 : n ≠ 17 := fun e => by
        subst e
        obtain ⟨d, hd⟩ := sel_17 h0 h1 hp
        rw [hd] at hs; cases hs
      obtain ⟨d, m, a1, a2, a3, a4, a5⟩ := srch_ends h0 h1 hp k (n + 1) (by omega) (by omega) (by omega)
      refine ⟨d, m, by rw [srch_none hs]; exact a1, by omega, a3, a4, fun i b1 b2 => ?_⟩
      rcases Nat.lt_or_eq_of_le b1 with c | c
      · exact a5 i c b2
      · subst c; exact hs
end Go.Proofs.YtlgencbldbpbdaaGreatDoor
