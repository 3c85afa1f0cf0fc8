/- Nearest of whole numbers (nothing more is left behind them). The number nearest to a quotient of whole numbers: by cutting to 56 bits; by what lies beneath it. Plain laws. The number nearest to a quotient, found between a rung and the next. Plain laws. -/
import Derived.Test.YthohhepoddnbnaaGreatDoorMgLgI
import Derived.Test.YthohhepoddnbnaaGreatDoorJoin
import Derived.Test.YthohhepoddnbnaaGreatDoorFlB
namespace Go.Proofs.YthohhepoddnbnaaGreatDoor
open Go.RowKit Fl

/-- a number of one word -/
theorem NV.one {w : World} {v : Value} {m : Nat} (h : NV w v m) (h0 : 0 < m) (hm : m < BB) : ∃ b o c, v = .slice (some ⟨b, o, none⟩) 1 c ∧ 1 ≤ c ∧ w.cell? ⟨b, o, none⟩ = some (.int .u64 (m : Int)) := by
  obtain ⟨l, ⟨hW, h⟩, hc, rfl⟩ := h
  have hl : l.length = 1 := by
    rcases Nat.lt_or_ge 1 l.length with h1 | h1
    · have := val_ge hc (by omega)
      have h2 : BB ^ 1 ≤ BB ^ (l.length - 1) := Nat.pow_le_pow_right BB_pos (by omega)
      rw [Nat.pow_one] at h2
      omega
    · rcases Nat.eq_zero_or_pos l.length with h2 | h2
      · rw [List.eq_nil_of_length_eq_zero h2] at h0; exact absurd h0 (Nat.lt_irrefl _)
      · omega
  match l, hl with
  | [m], _ =>
    rcases h with ⟨_, h⟩ | ⟨b, o, c, rfl, h5, _, h4⟩
    · cases h
    · exact ⟨b, o, c, rfl, h5, by simpa [val] using h4.2 0 m rfl⟩
theorem NV.none {w : World} {v : Value} (h : NV w v 0) : ∃ A c, v = .slice A 0 c := by
  obtain ⟨l, hl, hc, h0⟩ := h
  have := val_zero hc h0
  subst this
  exact hl.form
def bumpN (m : Nat) (b : Bool) : Nat := m / 2 + (if m % 2 = 1 ∧ (b = true ∨ m / 2 % 2 = 1) then 1 else 0)
theorem bump_rhe (a D : Nat) : bumpN (a / 2 ^ D) (decide (a % 2 ^ D ≠ 0)) = rhe a (2 ^ (D + 1)) := by
  rw [half_rhe]
  unfold bumpN
  have e : a / 2 ^ D / 2 = a / 2 ^ (D + 1) := by rw [Nat.div_div_eq_div_mul, ← Nat.pow_succ]
  rw [e]
  congr 1
  by_cases h : a % 2 ^ D = 0
  · simp [h]
  · simp [h]
theorem near_drop (a : Nat) (e : Int) (D : Nat) (he : -1074 ≤ e) (h0 : 0 < a) (hD : blen a = D + 54) : near (bumpN (a / 2 ^ D) (decide (a % 2 ^ D ≠ 0))) (e + (D + 1 : Nat)) = near a e ∧ bumpN (a / 2 ^ D) (decide (a % 2 ^ D ≠ 0)) ≤ 9007199254740992 := by
  rw [bump_rhe]
  exact near_cut a e (e + (D + 1 : Nat)) (D + 1) h0 (by rw [hD]; omega) (by omega)
theorem u64_low (m : Nat) (h : m < BB) : bits .and .u64 (m : Int) 1 = ((m % 2 : Nat) : Int) := by
  have := u64_and_nat m 1 h (by decide)
  rw [Nat.and_one_is_mod] at this
  exact this
set_option maxRecDepth 100000 in
set_option maxHeartbeats 2000000 in
theorem lNearest {w : World} {v : Value} {a : Nat} {e : Int} (hv : NV w v a) (hs : blen a ≤ 4000) (he : -1074 ≤ e) (he2 : e ≤ 990) :
    Calls Tryz.prog 84 #[v, .int .i64 e, .bool false] w fun x w' => x = .returned (.float .f64 (min (near a e) INF)) ∧ Below w.heap.size w w' := by
  have C1 := Lib.hid (c80 hv (by omega))
  have i1 : (blen a : Int) ≤ 4000 := by omega
  have i3 : (0 : Int) ≤ (blen a : Int) := by omega
  by_cases hb : blen a ≤ 53
  · have hmx : max ((blen a : Int) - 53) (-1074 - e) ≤ 0 := by omega
    by_cases h0 : a = 0
    · subst h0
      obtain ⟨A, c, rfl⟩ := hv.none
      have HR : Hid (min (near 0 e) INF = 0) := Lib.hid (by rw [near_zero]; rfl)
      rw [HR.out]
      clear hv hs hb
      generalize blen 0 = bx at *
      go_enter Tryz.func84, Tryz.ntmps84
      go_wp2_with (go_at_call 80; with_reducible refine C1.out.mono ?_; rintro e w' ⟨rfl, rfl⟩)
      go_ret
      exact ⟨rfl, Below.refl _ _⟩
    · have ha : a < 2 ^ 53 := Nat.lt_of_lt_of_le (lt_blen a) (Nat.pow_le_pow_right (by decide) hb)
      have ha2 : a < 9007199254740992 := ha
      obtain ⟨b, o, c, rfl, hc, kc⟩ := hv.one (by omega) (by unfold BB; omega)
      have hc2 : (1 : Int) ≤ (c : Int) := by omega
      have C2 := Lib.hid (fun w => c177 a e w (by omega) (by omega) (by omega))
      have e2 : floatOfInt .f64 (a : Int) = fi a := fi_eq a
      clear hv hs hb h0 ha ha2
      generalize blen a = bx at *
      generalize min (near a e) INF = R at *
      go_enter Tryz.func84, Tryz.ntmps84
      go_wp2_with (first
        | (go_at_call 80; with_reducible refine C1.out.mono ?_; rintro e w' ⟨rfl, rfl⟩)
        | (go_at_call 90; refine (C2.out _).mono ?_; rintro e w' ⟨rfl, rfl⟩))
      go_ret
      exact ⟨rfl, Below.refl _ _⟩
  · obtain ⟨D, hD⟩ : ∃ D, blen a = D + 54 := ⟨blen a - 54, by omega⟩
    have h0 : 0 < a := by
      rcases Nat.eq_zero_or_pos a with h | h
      · rw [h] at hb; exact absurd (by decide) hb
      · exact h
    have hmx : max ((blen a : Int) - 53) (-1074 - e) = (D : Int) + 1 := by omega
    have hdi : (D : Int) ≤ 4000 := by omega
    have ed : (D : Int) + 1 - 1 = (D : Int) := by omega
    obtain ⟨n1, n2⟩ := near_drop a e D he h0 hD
    have hq : bumpN (a / 2 ^ D) (decide (a % 2 ^ D ≠ 0)) ≤ 9007199254740992 := n2
    have hm0 : 0 < a / 2 ^ D := by
      have := le_blen a h0
      exact (Nat.le_div_iff_mul_le (Nat.two_pow_pos D)).2 (by rw [Nat.one_mul]; exact Nat.le_trans (Nat.pow_le_pow_right (by decide) (by omega)) this)
    have hm1 : a / 2 ^ D < 2 ^ 54 := by
      rw [Nat.div_lt_iff_lt_mul (Nat.two_pow_pos D), ← Nat.pow_add, Nat.add_comm, ← hD]; exact lt_blen a
    have CR := c81 (n := D) hv (by omega) (by omega)
    have HN := Lib.hid n1
    obtain ⟨b0, hb0⟩ : ∃ b0, b0 = decide (a % 2 ^ D ≠ 0) := ⟨_, rfl⟩
    obtain ⟨m, hm⟩ : ∃ m, m = a / 2 ^ D := ⟨_, rfl⟩
    rw [← hb0, ← hm] at HN hq CR
    rw [← hm] at hm0 hm1
    have hm2 : m < 18014398509481984 := hm1
    have CR := Lib.hid CR
    rw [← HN.out]
    have HQ := Lib.hid hq
    have C2 := Lib.hid (fun (k : Nat) (hk : k ≤ 9007199254740992) w => c177 k (e + (D + 1 : Nat)) w hk (by omega) (by omega))
    have ee : e + ((D : Int) + 1) = e + (D + 1 : Nat) := by push_cast; rfl
    have e3 := u64_low m (by unfold BB; omega)
    have e4 := u64_low (m / 2) (by unfold BB; omega)
    have e4' : bits .and .u64 ((m : Int) / 2) 1 = ((m / 2 % 2 : Nat) : Int) := e4
    clear hv hs hb hD h0 n1 n2 hq hm1 hb0 hm HN e4
    generalize blen a = bx at *
    go_enter Tryz.func84, Tryz.ntmps84
    go_upto_region 2 with (go_at_call 80; with_reducible refine C1.out.mono ?_; rintro e w' ⟨rfl, rfl⟩)
    go_upto_region 7 with (go_at_call 81; (try rw [ed]); refine CR.out.mono ?_; rintro e w2 ⟨hb2, v2, rfl, hv2, -⟩; obtain ⟨b, o, c, rfl, hc, kc⟩ := hv2.one hm0 (by unfold BB; omega); have B2 := Lib.hid hb2; clear hb2 hv2 CR)
    have hc2 : (1 : Int) ≤ (c : Int) := by omega
    go_upto_region 13 with fail
    have e7 : floatOfInt .f64 ((m : Int) / 2) = fi (m / 2) := fi_eq (m / 2)
    have e8 : floatOfInt .f64 ((m : Int) / 2 + 1) = fi (m / 2 + 1) := fi_eq (m / 2 + 1)
    by_cases hA : m % 2 = 1
    · have q1 : ((m : Int) % 2 == 1) = true := by simp; omega
      rw [q1]
      by_cases hB : b0 = true ∨ m / 2 % 2 = 1
      · have HB : Hid (bumpN m b0 = m / 2 + 1 ∧ m / 2 + 1 ≤ 9007199254740992) := Lib.hid ⟨by unfold bumpN; rw [if_pos ⟨hA, hB⟩], by have := HQ.out; unfold bumpN at this; rw [if_pos ⟨hA, hB⟩] at this; exact this⟩
        cases b0
        · have q2 : ((m : Int) / 2 % 2 == 1) = true := by have := hB.resolve_left (by decide); simp; omega
          clear hA hB
          go_wp2_with (go_at_call 90; (try rw [ee]); refine (C2.out _ HB.out.2 _).mono ?_; rintro x w3 ⟨rfl, rfl⟩)
          go_ret
          exact ⟨by rw [HB.out.1]; rfl, B2.out⟩
        · clear hA hB
          go_wp2_with (go_at_call 90; (try rw [ee]); refine (C2.out _ HB.out.2 _).mono ?_; rintro x w3 ⟨rfl, rfl⟩)
          go_ret
          exact ⟨by rw [HB.out.1]; rfl, B2.out⟩
      · have HB : Hid (bumpN m b0 = m / 2 ∧ m / 2 ≤ 9007199254740992) := Lib.hid ⟨by unfold bumpN; rw [if_neg (fun h => hB h.2)]; rfl, by omega⟩
        have hb0 : b0 = false := by cases b0; rfl; exact absurd (.inl rfl) hB
        subst hb0
        have q2 : ((m : Int) / 2 % 2 == 1) = false := by have : ¬ m / 2 % 2 = 1 := fun h => hB (.inr h); simp; omega
        clear hA hB
        go_wp2_with (go_at_call 90; (try rw [ee]); refine (C2.out _ HB.out.2 _).mono ?_; rintro x w3 ⟨rfl, rfl⟩)
        go_ret
        exact ⟨by rw [HB.out.1]; rfl, B2.out⟩
    · have q1 : ((m : Int) % 2 == 1) = false := by simp; omega
      rw [q1]
      have HB : Hid (bumpN m b0 = m / 2 ∧ m / 2 ≤ 9007199254740992) := Lib.hid ⟨by unfold bumpN; rw [if_neg (fun h => hA h.1)]; rfl, by omega⟩
      clear hA
      go_wp2_with (go_at_call 90; (try rw [ee]); refine (C2.out _ HB.out.2 _).mono ?_; rintro x w3 ⟨rfl, rfl⟩)
      go_ret
      exact ⟨by rw [HB.out.1]; rfl, B2.out⟩
end Go.Proofs.YthohhepoddnbnaaGreatDoor

namespace Go.Proofs.YthohhepoddnbnaaGreatDoor
open Fl

/-- the rung nearest to A / B units -/
def rungQ (A B : Nat) : Nat := ((A / B).log2 - 52) * 2 ^ 52 + rhe A (B * 2 ^ ((A / B).log2 - 52))
/-- the last rung that is not above X units -/
def lowR (X : Nat) : Nat := (X.log2 - 52) * 2 ^ 52 + X / 2 ^ (X.log2 - 52)
theorem log2_small {X : Nat} (h : X < 2 ^ 53) : X.log2 - 52 = 0 := by
  by_cases h0 : X = 0
  · subst h0; decide
  · have := (Nat.log2_lt h0 (k := 53)).2 h
    omega
theorem log2_cut {X : Nat} (h : 2 ^ 53 ≤ X) : 2 ^ 52 ≤ X / 2 ^ (X.log2 - 52) ∧ X / 2 ^ (X.log2 - 52) < 2 ^ 53 := by
  have h0 : X ≠ 0 := by have := Nat.two_pow_pos 53; omega
  have hl := (Nat.le_log2 h0 (k := 53)).2 h
  have a := Nat.log2_self_le h0
  have b := Nat.lt_log2_self (n := X)
  obtain ⟨E, hE⟩ : ∃ E, X.log2 = E + 52 := ⟨X.log2 - 52, by omega⟩
  rw [hE] at a b ⊢
  rw [Nat.add_sub_cancel]
  have hp := Nat.two_pow_pos E
  refine ⟨?_, ?_⟩
  · rw [Nat.le_div_iff_mul_le hp, ← Nat.pow_add, Nat.add_comm]; exact a
  · rw [Nat.div_lt_iff_lt_mul hp, ← Nat.pow_add, show 53 + E = E + 52 + 1 by omega]; exact b
theorem cut_cases (X : Nat) : X / 2 ^ (X.log2 - 52) < 2 ^ 53 ∧ (X.log2 - 52 = 0 ∨ 2 ^ 52 ≤ X / 2 ^ (X.log2 - 52)) := by
  rcases Nat.lt_or_ge X (2 ^ 53) with h | h
  · rw [log2_small h]; exact ⟨by simpa using h, .inl rfl⟩
  · exact ⟨(log2_cut h).2, .inr (log2_cut h).1⟩
theorem val_em (E m : Nat) (h1 : m ≤ 2 ^ 53) (h2 : E = 0 ∨ 2 ^ 52 ≤ m) : Fl.val 52 (E * 2 ^ 52 + m) = m * 2 ^ E := by
  unfold Fl.val
  have e53 : (2 : Nat) ^ 53 = 2 * 2 ^ 52 := by decide
  have hp : 0 < 2 ^ 52 := Nat.two_pow_pos 52
  generalize 2 ^ 52 = P at *
  rw [e53] at h1
  by_cases hm : m < P
  · have hE : E = 0 := by omega
    subst hE
    rw [Nat.zero_mul, Nat.zero_add, if_pos hm, Nat.pow_zero, Nat.mul_one]
  · by_cases hE : m = 2 * P
    · have e1 : E * P + m = P * (E + 2) := by rw [hE, Nat.mul_add, Nat.mul_comm E, Nat.mul_comm 2]
      have e2 : ¬ E * P + m < P := by omega
      rw [if_neg e2, e1, Nat.mul_mod_right, Nat.mul_div_cancel_left _ hp, hE, Nat.add_zero, show E + 2 - 1 = E + 1 by omega, Nat.pow_succ, Nat.mul_comm 2 P, Nat.mul_assoc, Nat.mul_comm 2]
    · have e1 : E * P + m = P * (E + 1) + (m - P) := by rw [Nat.mul_add, Nat.mul_comm E]; omega
      have e2 : ¬ E * P + m < P := by omega
      rw [if_neg e2, e1, Nat.mul_add_mod, Nat.mul_add_div hp, Nat.mod_eq_of_lt (by omega), Nat.div_eq_of_lt (show m - P < P by omega), Nat.add_zero, show E + 1 - 1 = E by omega, show P + (m - P) = m by omega]
theorem val_lowR (X : Nat) : Fl.val 52 (lowR X) = X / 2 ^ (X.log2 - 52) * 2 ^ (X.log2 - 52) :=
  val_em _ _ (Nat.le_of_lt (cut_cases X).1) (cut_cases X).2
theorem val_lowR1 (X : Nat) : Fl.val 52 (lowR X + 1) = (X / 2 ^ (X.log2 - 52) + 1) * 2 ^ (X.log2 - 52) := by
  unfold lowR
  rw [Nat.add_assoc]
  refine val_em _ _ (cut_cases X).1 ?_
  rcases (cut_cases X).2 with h | h
  · exact .inl h
  · exact .inr (Nat.le_succ_of_le h)
theorem lowR_le (X : Nat) : Fl.val 52 (lowR X) ≤ X := by rw [val_lowR]; exact Nat.div_mul_le_self _ _
theorem lt_lowR (X : Nat) : X < Fl.val 52 (lowR X + 1) := by
  rw [val_lowR1]
  have := Nat.lt_div_mul_add (a := X) (b := 2 ^ (X.log2 - 52)) (Nat.two_pow_pos _)
  rw [Nat.add_mul, Nat.one_mul]
  exact this
theorem lowR_unique {X r : Nat} (h1 : Fl.val 52 r ≤ X) (h2 : X < Fl.val 52 (r + 1)) : r = lowR X := by
  have a := lowR_le X
  have b := lt_lowR X
  rcases Nat.lt_trichotomy r (lowR X) with h | h | h
  · have := Fl.val_le 52 (r + 1) (lowR X) h; omega
  · exact h
  · have := Fl.val_le 52 (lowR X + 1) r h; omega
/-- half a step above or not -/
theorem rungQ_eq (A B : Nat) (hB : 0 < B) : rungQ A B = lowR (A / B) +
    (if (2 * (A / B / 2 ^ ((A / B).log2 - 52)) + 1) * 2 ^ ((A / B).log2 - 52) * B < 2 * A ∨ ((2 * (A / B / 2 ^ ((A / B).log2 - 52)) + 1) * 2 ^ ((A / B).log2 - 52) * B = 2 * A ∧ lowR (A / B) % 2 = 1) then 1 else 0) := by
  unfold rungQ lowR
  generalize (A / B).log2 - 52 = E
  have hG : 0 < B * 2 ^ E := Nat.mul_pos hB (Nat.two_pow_pos E)
  have e1 : A / B / 2 ^ E = A / (B * 2 ^ E) := Nat.div_div_eq_div_mul _ _ _
  rw [e1]
  unfold rhe
  have hd := Nat.div_add_mod A (B * 2 ^ E)
  have e2 : (2 * (A / (B * 2 ^ E)) + 1) * 2 ^ E * B = 2 * (B * 2 ^ E * (A / (B * 2 ^ E))) + B * 2 ^ E := by
    rw [Nat.add_mul, Nat.add_mul, Nat.one_mul, Nat.mul_comm (2 ^ E) B]
    congr 1
    rw [Nat.mul_assoc, Nat.mul_assoc, Nat.mul_comm (2 ^ E) B]
    congr 1
    exact Nat.mul_comm _ _
  rw [e2]
  have e3 : ∀ m : Nat, (E * 2 ^ 52 + m) % 2 = m % 2 := fun m => by
    rw [show (2 : Nat) ^ 52 = 2 ^ 51 * 2 by decide, ← Nat.mul_assoc, Nat.add_comm, Nat.add_mul_mod_self_right]
  rw [e3]
  generalize A / (B * 2 ^ E) = m at *
  generalize A % (B * 2 ^ E) = t at *
  generalize B * 2 ^ E = G at *
  have c1 : (2 * (G * m) + G < 2 * A) ↔ (G < 2 * t) := by omega
  have c2 : (2 * (G * m) + G = 2 * A) ↔ (G = 2 * t) := by omega
  simp only [c1, c2]
  rw [Nat.add_assoc]
/-- cut, and something is left or not -/
theorem rhe_cut (a b D : Nat) (hb : 0 < b) (hD : 0 < D) : rhe a (b * (2 * D)) = a / b / (2 * D) + (if a / b / D % 2 = 1 ∧ (a % b ≠ 0 ∨ a / b % D ≠ 0 ∨ a / b / (2 * D) % 2 = 1) then 1 else 0) := by
  unfold rhe
  have e1 : a / (b * (2 * D)) = a / b / (2 * D) := (Nat.div_div_eq_div_mul _ _ _).symm
  have e2 : a % (b * (2 * D)) = a % b + b * (a / b % (2 * D)) := Nat.mod_mul
  have e3 : a / b % (2 * D) = a / b % D + D * (a / b / D % 2) := by rw [Nat.mul_comm 2 D]; exact Nat.mod_mul
  rw [e1, e2, e3]
  have h1 : a % b < b := Nat.mod_lt _ hb
  have h2 : a / b % D < D := Nat.mod_lt _ hD
  have h3 : a / b / D % 2 < 2 := Nat.mod_lt _ (by decide)
  generalize a / b / (2 * D) % 2 = o
  generalize a / b / D % 2 = h at *
  generalize a / b % D = t at *
  generalize a % b = r at *
  congr 1
  have k1 : b * (t + 1) ≤ b * D := Nat.mul_le_mul_left _ h2
  rw [Nat.mul_add, Nat.mul_one] at k1
  have k2 : b * (2 * D) = 2 * (b * D) := Nat.mul_left_comm _ _ _
  have hh : h = 0 ∨ h = 1 := by omega
  rcases hh with rfl | rfl
  · rw [Nat.mul_zero, Nat.add_zero, k2, if_neg (by omega), if_neg (by omega)]
  · rw [Nat.mul_one, k2]
    have k5 : b * (t + D) = b * t + b * D := Nat.mul_add _ _ _
    have k3 : t ≠ 0 → 0 < b * t := fun h => Nat.mul_pos hb (by omega)
    have k4 : t = 0 → b * t = 0 := fun h => by rw [h, Nat.mul_zero]
    by_cases c : t = 0
    · have := k4 c
      by_cases c2 : r = 0
      · by_cases c3 : o = 1
        · rw [if_pos (by omega), if_pos (by omega)]
        · rw [if_neg (by omega), if_neg (by omega)]
      · rw [if_pos (by omega), if_pos (by omega)]
    · have := k3 c
      rw [if_pos (by omega), if_pos (by omega)]
theorem log2_div_pow (X j : Nat) : (X / 2 ^ j).log2 = X.log2 - j := by
  by_cases h0 : X / 2 ^ j = 0
  · rw [h0]
    have hlt : X < 2 ^ j := by
      rcases Nat.lt_or_ge X (2 ^ j) with h | h
      · exact h
      · have := (Nat.le_div_iff_mul_le (Nat.two_pow_pos j) (x := 1) (y := X)).2 (by simpa using h)
        omega
    by_cases hx : X = 0
    · subst hx; simp
    · have := (Nat.log2_lt hx (k := j)).2 hlt
      show 0 = _
      omega
  · have hx : X ≠ 0 := fun h => h0 (by rw [h, Nat.zero_div])
    have a := Nat.log2_self_le hx
    have b := Nat.lt_log2_self (n := X)
    have hj : j ≤ X.log2 := by
      refine (Nat.le_log2 hx).2 ?_
      rcases Nat.lt_or_ge X (2 ^ j) with h | h
      · exact absurd (Nat.div_eq_of_lt h) h0
      · exact h
    obtain ⟨k, hk⟩ : ∃ k, X.log2 = k + j := ⟨X.log2 - j, by omega⟩
    rw [hk] at a b ⊢
    rw [Nat.add_sub_cancel]
    refine log2_eq _ _ ?_ ?_
    · rw [Nat.le_div_iff_mul_le (Nat.two_pow_pos j), ← Nat.pow_add]; exact a
    · rw [Nat.div_lt_iff_lt_mul (Nat.two_pow_pos j), ← Nat.pow_add, show k + 1 + j = k + j + 1 by omega]; exact b
/-- scaled by a power of two, the quotient's logarithm goes with it -/
theorem log2_quo_up (a b j : Nat) (hb : 0 < b) (h : 0 < a / b) : (a * 2 ^ j / b).log2 = (a / b).log2 + j := by
  have h0 : a / b ≠ 0 := by omega
  have x1 := Nat.log2_self_le h0
  have x2 := Nat.lt_log2_self (n := a / b)
  refine log2_eq _ _ ?_ ?_
  · rw [Nat.le_div_iff_mul_le hb, Nat.pow_add, Nat.mul_right_comm]
    refine Nat.mul_le_mul_right _ ?_
    rw [← Nat.le_div_iff_mul_le hb]; exact x1
  · rw [Nat.div_lt_iff_lt_mul hb, show (a / b).log2 + j + 1 = (a / b).log2 + 1 + j by omega, Nat.pow_add, Nat.mul_right_comm]
    refine Nat.mul_lt_mul_of_pos_right ?_ (Nat.two_pow_pos j)
    rw [← Nat.div_lt_iff_lt_mul hb]; exact x2
/-- what Ratio answers: a / b is at least 2^55 and n bits were put behind, or taken away (L = 1074) -/
theorem rungQ_up (a b L n d : Nat) (hb : 0 < b) (hq : 2 ^ 55 ≤ a * 2 ^ n / b) (hd : d = max ((a * 2 ^ n / b).log2 - 52) (n - L)) (hd0 : 0 < d) :
    rungQ (a * 2 ^ L) b = (L + d - n) * 2 ^ 52 + rhe (a * 2 ^ n) (b * 2 ^ d) := by
  have hp := Nat.two_pow_pos 55
  have hq0 : a * 2 ^ n / b ≠ 0 := by omega
  have hlg := (Nat.le_log2 hq0 (k := 55)).2 hq
  have hE : (a * 2 ^ L / b).log2 - 52 = L + d - n := by
    rcases Nat.le_total n L with h | h
    · obtain ⟨j, hj⟩ : ∃ j, L = n + j := ⟨L - n, by omega⟩
      have e : a * 2 ^ L / b = a * 2 ^ n * 2 ^ j / b := by rw [hj, Nat.pow_add, Nat.mul_assoc]
      rw [e, log2_quo_up _ _ _ hb (by omega)]
      omega
    · obtain ⟨j, hj⟩ : ∃ j, n = L + j := ⟨n - L, by omega⟩
      have e : a * 2 ^ L / b = a * 2 ^ n / b / 2 ^ j := by
        rw [hj, Nat.pow_add, ← Nat.mul_assoc, Nat.div_div_eq_div_mul, Nat.mul_div_mul_right _ _ (Nat.two_pow_pos j)]
      rw [e, log2_div_pow]
      omega
  unfold rungQ
  rw [hE]
  congr 1
  rcases Nat.le_total n L with h | h
  · obtain ⟨j, hj⟩ : ∃ j, L = n + j := ⟨L - n, by omega⟩
    rw [show L + d - n = d + j by omega, hj, Nat.pow_add, Nat.pow_add, ← Nat.mul_assoc, ← Nat.mul_assoc, rhe_mul _ _ _ (Nat.two_pow_pos j)]
  · obtain ⟨j, hj⟩ : ∃ j, n = L + j := ⟨n - L, by omega⟩
    obtain ⟨k, hk⟩ : ∃ k, d = k + j := ⟨d - j, by omega⟩
    rw [show L + d - n = k by omega, hj, hk, Nat.pow_add 2 L, Nat.pow_add 2 k, ← Nat.mul_assoc, ← Nat.mul_assoc, rhe_mul _ _ _ (Nat.two_pow_pos j)]
theorem rungQ_down (a b L n d : Nat) (hb : 0 < b) (hq : 2 ^ 55 ≤ a / (b * 2 ^ n)) (hd : d = (a / (b * 2 ^ n)).log2 - 52) :
    rungQ (a * 2 ^ L) b = (L + d + n) * 2 ^ 52 + rhe a (b * 2 ^ n * 2 ^ d) := by
  have hp := Nat.two_pow_pos 55
  have hq0 : a / (b * 2 ^ n) ≠ 0 := by omega
  have hlg := (Nat.le_log2 hq0 (k := 55)).2 hq
  have hab : 0 < a / b := by
    rw [← Nat.div_div_eq_div_mul] at hq0
    exact Nat.pos_of_ne_zero fun h => hq0 (by rw [h, Nat.zero_div])
  have hE : (a * 2 ^ L / b).log2 - 52 = L + d + n := by
    rw [log2_quo_up _ _ _ hb hab]
    rw [← Nat.div_div_eq_div_mul, log2_div_pow] at hd hlg
    omega
  unfold rungQ
  rw [hE]
  congr 1
  rw [show L + d + n = n + d + L by omega, Nat.pow_add 2 (n + d), Nat.pow_add, ← Nat.mul_assoc, ← Nat.mul_assoc, rhe_mul _ _ _ (Nat.two_pow_pos L)]
end Go.Proofs.YthohhepoddnbnaaGreatDoor

namespace Go.Proofs.YthohhepoddnbnaaGreatDoor
open Fl

/-- the parts of a word that is a finite number not below nought -/
def pM (b : Nat) : Nat := if b < 2 ^ 52 then b else 2 ^ 52 + b % 2 ^ 52
def pE (b : Nat) : Nat := b / 2 ^ 52 - 1
theorem val_parts (b : Nat) : Fl.val 52 b = pM b * 2 ^ pE b := by
  unfold Fl.val pM pE
  split
  · rename_i h
    rw [Nat.div_eq_of_lt h, Nat.zero_sub, Nat.pow_zero, Nat.mul_one]
  · rfl
theorem parts_em (E m : Nat) (h1 : m < 2 ^ 53) (h2 : E = 0 ∨ 2 ^ 52 ≤ m) : pM (E * 2 ^ 52 + m) = m ∧ pE (E * 2 ^ 52 + m) = E := by
  unfold pM pE
  have e53 : (2 : Nat) ^ 53 = 2 * 2 ^ 52 := by decide
  have hp : 0 < 2 ^ 52 := Nat.two_pow_pos 52
  generalize 2 ^ 52 = P at *
  rw [e53] at h1
  by_cases hm : m < P
  · have hE : E = 0 := by omega
    subst hE
    rw [Nat.zero_mul, Nat.zero_add, if_pos hm, Nat.div_eq_of_lt hm]
    exact ⟨rfl, rfl⟩
  · have e1 : E * P + m = P * (E + 1) + (m - P) := by rw [Nat.mul_add, Nat.mul_comm E]; omega
    have e2 : ¬ E * P + m < P := by omega
    rw [if_neg e2, e1, Nat.mul_add_mod, Nat.mul_add_div hp, Nat.mod_eq_of_lt (by omega), Nat.div_eq_of_lt (show m - P < P by omega)]
    exact ⟨by omega, by omega⟩
theorem pM_lt (b : Nat) : pM b < 2 ^ 53 := by
  unfold pM
  have h := Nat.mod_lt b (Nat.two_pow_pos 52)
  have e : (2 : Nat) ^ 53 = 2 ^ 52 + 2 ^ 52 := by decide
  rw [e]
  split
  · exact Nat.lt_of_lt_of_le (by assumption) (Nat.le_add_left _ _)
  · exact Nat.add_lt_add_left h _
theorem parts_back (b : Nat) : pE b * 2 ^ 52 + pM b = b ∧ (pE b = 0 ∨ 2 ^ 52 ≤ pM b) := by
  unfold pM pE
  have hp : 0 < 2 ^ 52 := Nat.two_pow_pos 52
  generalize 2 ^ 52 = P at *
  split
  · rename_i h
    rw [Nat.div_eq_of_lt h]
    exact ⟨by omega, .inl rfl⟩
  · rename_i h
    have h1 := Nat.div_add_mod b P
    have h2 : 1 ≤ b / P := (Nat.le_div_iff_mul_le hp).2 (by omega)
    obtain ⟨k, hk⟩ : ∃ k, b / P = k + 1 := ⟨b / P - 1, by omega⟩
    rw [hk, Nat.mul_add, Nat.mul_one, Nat.mul_comm] at h1
    rw [hk, Nat.add_sub_cancel]
    exact ⟨by omega, .inr (Nat.le_add_right _ _)⟩
theorem val_next (b : Nat) : Fl.val 52 (b + 1) = (pM b + 1) * 2 ^ pE b := by
  have h := parts_back b
  conv => lhs; rw [← h.1]
  rw [Nat.add_assoc]
  refine val_em _ _ (pM_lt b) ?_
  rcases h.2 with h2 | h2
  · exact .inl h2
  · exact .inr (Nat.le_succ_of_le h2)
theorem mid_parts (b : Nat) : (2 * pM b + 1) * 2 ^ pE b = Fl.val 52 b + Fl.val 52 (b + 1) := by
  rw [val_next, val_parts]
  generalize 2 ^ pE b = P
  rw [Nat.add_mul, Nat.add_mul, Nat.one_mul, Nat.mul_assoc]
  omega
/-- what lies between a rung and the next, or behind the last -/
theorem near_low (A B low : Nat) (hB : 0 < B) (hl : low < INF) (h1 : Fl.val 52 low * B ≤ A) (h2 : A < Fl.val 52 (low + 1) * B ∨ low + 1 = INF) :
    low + (if (2 * pM low + 1) * 2 ^ pE low * B < 2 * A ∨ ((2 * pM low + 1) * 2 ^ pE low * B = 2 * A ∧ low % 2 = 1) then 1 else 0) = min (rungQ A B) INF := by
  have hx1 : Fl.val 52 low ≤ A / B := by rw [Nat.le_div_iff_mul_le hB]; exact h1
  by_cases h : A < Fl.val 52 (low + 1) * B
  · have hx2 : A / B < Fl.val 52 (low + 1) := by rw [Nat.div_lt_iff_lt_mul hB]; exact h
    have e := lowR_unique hx1 hx2
    have c := cut_cases (A / B)
    have p := parts_em ((A / B).log2 - 52) (A / B / 2 ^ ((A / B).log2 - 52)) c.1 c.2
    have e2 : low = ((A / B).log2 - 52) * 2 ^ 52 + A / B / 2 ^ ((A / B).log2 - 52) := e
    rw [← e2] at p
    rw [p.1, p.2]
    have r := rungQ_eq A B hB
    rw [← e] at r
    rw [← r, Nat.min_eq_left]
    rw [r]
    split
    · exact hl
    · exact Nat.le_of_lt hl
  · have hl := h2.resolve_left h
    have hA : Fl.val 52 INF * B ≤ A := by rw [← hl]; exact Nat.not_lt.1 h
    have hx : Fl.val 52 INF ≤ A / B := by rw [Nat.le_div_iff_mul_le hB]; exact hA
    have hr : INF ≤ rungQ A B := by
      rw [rungQ_eq A B hB]
      refine Nat.le_trans ?_ (Nat.le_add_right _ _)
      rcases Nat.lt_or_ge (lowR (A / B)) INF with h3 | h3
      · have := Fl.val_le 52 (lowR (A / B) + 1) INF h3
        have := lt_lowR (A / B)
        omega
      · exact h3
    rw [Nat.min_eq_right hr, if_pos, hl]
    left
    have c : (2 * pM low + 1) * 2 ^ pE low < 2 * Fl.val 52 INF := by
      rw [mid_parts, hl]
      have := Fl.val_lt 52 low INF (by omega)
      omega
    have c2 := Nat.mul_lt_mul_of_pos_right c hB
    rw [Nat.mul_assoc 2] at c2
    omega
end Go.Proofs.YthohhepoddnbnaaGreatDoor
