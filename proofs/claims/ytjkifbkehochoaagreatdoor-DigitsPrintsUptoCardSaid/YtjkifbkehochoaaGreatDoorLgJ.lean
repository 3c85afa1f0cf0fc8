/- Nearest of whole numbers (nothing more is left behind them). -/
import Derived.Test.YtjkifbkehochoaaGreatDoorMgLgH
import Derived.Test.YtjkifbkehochoaaGreatDoorMgDmH
import Derived.Test.YtjkifbkehochoaaGreatDoorJoin
namespace Go.Proofs.YtjkifbkehochoaaGreatDoor
open Go.RowKit Fl

/-- a number of one word -/
theorem NV.one {w : World} {v : Value} {m : Nat} (h : NV w v m) (h0 : 0 < m) (hm : m < BB) : ∃ b o c, v = .slice (some ⟨b, o, none⟩) 1 c ∧ 1 ≤ c ∧ w.cell? ⟨b, o, none⟩ = some (.int .u64 (m : Int)) := by
  obtain ⟨l, ⟨hW, h⟩, hc, rfl⟩ := h
  have hl : l.length = 1 := by
    rcases Nat.lt_or_ge 1 l.length with h1 | h1
    · have := val_ge hc (by omega)
      have h2 : BB ^ 1 ≤ BB ^ (l.length - 1) := Nat.pow_le_pow_right BB_pos (by omega)
      rw [Nat.pow_one] at h2
      omega
    · rcases Nat.eq_zero_or_pos l.length with h2 | h2
      · rw [List.eq_nil_of_length_eq_zero h2] at h0; exact absurd h0 (Nat.lt_irrefl _)
      · omega
  match l, hl with
  | [m], _ =>
    rcases h with ⟨_, h⟩ | ⟨b, o, c, rfl, h5, _, h4⟩
    · cases h
    · exact ⟨b, o, c, rfl, h5, by simpa [val] using h4.2 0 m rfl⟩
theorem NV.none {w : World} {v : Value} (h : NV w v 0) : ∃ A c, v = .slice A 0 c := by
  obtain ⟨l, hl, hc, h0⟩ := h
  have := val_zero hc h0
  subst this
  exact hl.form
def bumpN (m : Nat) (b : Bool) : Nat := m / 2 + (if m % 2 = 1 ∧ (b = true ∨ m / 2 % 2 = 1) then 1 else 0)
theorem bump_rhe (a D : Nat) : bumpN (a / 2 ^ D) (decide (a % 2 ^ D ≠ 0)) = rhe a (2 ^ (D + 1)) := by
  rw [half_rhe]
  unfold bumpN
  have e : a / 2 ^ D / 2 = a / 2 ^ (D + 1) := by rw [Nat.div_div_eq_div_mul, ← Nat.pow_succ]
  rw [e]
  congr 1
  by_cases h : a % 2 ^ D = 0
  · simp [h]
  · simp [h]
theorem near_drop (a : Nat) (e : Int) (D : Nat) (he : -1074 ≤ e) (h0 : 0 < a) (hD : blen a = D + 54) : near (bumpN (a / 2 ^ D) (decide (a % 2 ^ D ≠ 0))) (e + (D + 1 : Nat)) = near a e ∧ bumpN (a / 2 ^ D) (decide (a % 2 ^ D ≠ 0)) ≤ 9007199254740992 := by
  rw [bump_rhe]
  exact near_cut a e (e + (D + 1 : Nat)) (D + 1) h0 (by rw [hD]; omega) (by omega)
theorem u64_low (m : Nat) (h : m < BB) : bits .and .u64 (m : Int) 1 = ((m % 2 : Nat) : Int) := by
  have := u64_and_nat m 1 h (by decide)
  rw [Nat.and_one_is_mod] at this
  exact this
set_option maxRecDepth 100000 in
set_option maxHeartbeats 2000000 in
theorem lNearest {w : World} {v : Value} {a : Nat} {e : Int} (hv : NV w v a) (hs : blen a ≤ 4000) (he : -1074 ≤ e) (he2 : e ≤ 990) :
    Calls Tryz.prog 98 #[v, .int .i64 e, .bool false] w fun x w' => x = .returned (.float .f64 (min (near a e) INF)) ∧ Below w.heap.size w w' := by
  have C1 := Lib.hid (c80 hv (by omega))
  have i1 : (blen a : Int) ≤ 4000 := by omega
  have i3 : (0 : Int) ≤ (blen a : Int) := by omega
  by_cases hb : blen a ≤ 53
  · have hmx : max ((blen a : Int) - 53) (-1074 - e) ≤ 0 := by omega
    by_cases h0 : a = 0
    · subst h0
      obtain ⟨A, c, rfl⟩ := hv.none
      have HR : Hid (min (near 0 e) INF = 0) := Lib.hid (by rw [near_zero]; rfl)
      rw [HR.out]
      clear hv hs hb
      generalize blen 0 = bx at *
      go_enter Tryz.func98, Tryz.ntmps98
      go_wp2_with (go_at_call 78; with_reducible refine C1.out.mono ?_; rintro e w' ⟨rfl, rfl⟩)
      go_ret
      exact ⟨rfl, Below.refl _ _⟩
    · have ha : a < 2 ^ 53 := Nat.lt_of_lt_of_le (lt_blen a) (Nat.pow_le_pow_right (by decide) hb)
      have ha2 : a < 9007199254740992 := ha
      obtain ⟨b, o, c, rfl, hc, kc⟩ := hv.one (by omega) (by unfold BB; omega)
      have hc2 : (1 : Int) ≤ (c : Int) := by omega
      have C2 := Lib.hid (fun w => c177 a e w (by omega) (by omega) (by omega))
      have e2 : floatOfInt .f64 (a : Int) = fi a := fi_eq a
      clear hv hs hb h0 ha ha2
      generalize blen a = bx at *
      generalize min (near a e) INF = R at *
      go_enter Tryz.func98, Tryz.ntmps98
      go_wp2_with (first
        | (go_at_call 78; with_reducible refine C1.out.mono ?_; rintro e w' ⟨rfl, rfl⟩)
        | (go_at_call 70; refine (C2.out _).mono ?_; rintro e w' ⟨rfl, rfl⟩))
      go_ret
      exact ⟨rfl, Below.refl _ _⟩
  · obtain ⟨D, hD⟩ : ∃ D, blen a = D + 54 := ⟨blen a - 54, by omega⟩
    have h0 : 0 < a := by
      rcases Nat.eq_zero_or_pos a with h | h
      · rw [h] at hb; exact absurd (by decide) hb
      · exact h
    have hmx : max ((blen a : Int) - 53) (-1074 - e) = (D : Int) + 1 := by omega
    have hdi : (D : Int) ≤ 4000 := by omega
    have ed : (D : Int) + 1 - 1 = (D : Int) := by omega
    obtain ⟨n1, n2⟩ := near_drop a e D he h0 hD
    have hq : bumpN (a / 2 ^ D) (decide (a % 2 ^ D ≠ 0)) ≤ 9007199254740992 := n2
    have hm0 : 0 < a / 2 ^ D := by
      have := le_blen a h0
      exact (Nat.le_div_iff_mul_le (Nat.two_pow_pos D)).2 (by rw [Nat.one_mul]; exact Nat.le_trans (Nat.pow_le_pow_right (by decide) (by omega)) this)
    have hm1 : a / 2 ^ D < 2 ^ 54 := by
      rw [Nat.div_lt_iff_lt_mul (Nat.two_pow_pos D), ← Nat.pow_add, Nat.add_comm, ← hD]; exact lt_blen a
    have CR := c81 (n := D) hv (by omega) (by omega)
    have HN := Lib.hid n1
    obtain ⟨b0, hb0⟩ : ∃ b0, b0 = decide (a % 2 ^ D ≠ 0) := ⟨_, rfl⟩
    obtain ⟨m, hm⟩ : ∃ m, m = a / 2 ^ D := ⟨_, rfl⟩
    rw [← hb0, ← hm] at HN hq CR
    rw [← hm] at hm0 hm1
    have hm2 : m < 18014398509481984 := hm1
    have CR := Lib.hid CR
    rw [← HN.out]
    have HQ := Lib.hid hq
    have C2 := Lib.hid (fun (k : Nat) (hk : k ≤ 9007199254740992) w => c177 k (e + (D + 1 : Nat)) w hk (by omega) (by omega))
    have ee : e + ((D : Int) + 1) = e + (D + 1 : Nat) := by push_cast; rfl
    have e3 := u64_low m (by unfold BB; omega)
    have e4 := u64_low (m / 2) (by unfold BB; omega)
    have e4' : bits .and .u64 ((m : Int) / 2) 1 = ((m / 2 % 2 : Nat) : Int) := e4
    clear hv hs hb hD h0 n1 n2 hq hm1 hb0 hm HN e4
    generalize blen a = bx at *
    go_enter Tryz.func98, Tryz.ntmps98
    go_upto_region 2 with (go_at_call 78; with_reducible refine C1.out.mono ?_; rintro e w' ⟨rfl, rfl⟩)
    go_upto_region 7 with (go_at_call 79; (try rw [ed]); refine CR.out.mono ?_; rintro e w2 ⟨hb2, v2, rfl, hv2, -⟩; obtain ⟨b, o, c, rfl, hc, kc⟩ := hv2.one hm0 (by unfold BB; omega); have B2 := Lib.hid hb2; clear hb2 hv2 CR)
    have hc2 : (1 : Int) ≤ (c : Int) := by omega
    go_upto_region 13 with fail
    have e7 : floatOfInt .f64 ((m : Int) / 2) = fi (m / 2) := fi_eq (m / 2)
    have e8 : floatOfInt .f64 ((m : Int) / 2 + 1) = fi (m / 2 + 1) := fi_eq (m / 2 + 1)
    by_cases hA : m % 2 = 1
    · have q1 : ((m : Int) % 2 == 1) = true := by simp; omega
      rw [q1]
      by_cases hB : b0 = true ∨ m / 2 % 2 = 1
      · have HB : Hid (bumpN m b0 = m / 2 + 1 ∧ m / 2 + 1 ≤ 9007199254740992) := Lib.hid ⟨by unfold bumpN; rw [if_pos ⟨hA, hB⟩], by have := HQ.out; unfold bumpN at this; rw [if_pos ⟨hA, hB⟩] at this; exact this⟩
        cases b0
        · have q2 : ((m : Int) / 2 % 2 == 1) = true := by have := hB.resolve_left (by decide); simp; omega
          clear hA hB
          go_wp2_with (go_at_call 70; (try rw [ee]); refine (C2.out _ HB.out.2 _).mono ?_; rintro x w3 ⟨rfl, rfl⟩)
          go_ret
          exact ⟨by rw [HB.out.1]; rfl, B2.out⟩
        · clear hA hB
          go_wp2_with (go_at_call 70; (try rw [ee]); refine (C2.out _ HB.out.2 _).mono ?_; rintro x w3 ⟨rfl, rfl⟩)
          go_ret
          exact ⟨by rw [HB.out.1]; rfl, B2.out⟩
      · have HB : Hid (bumpN m b0 = m / 2 ∧ m / 2 ≤ 9007199254740992) := Lib.hid ⟨by unfold bumpN; rw [if_neg (fun h => hB h.2)]; rfl, by omega⟩
        have hb0 : b0 = false := by cases b0; rfl; exact absurd (.inl rfl) hB
        subst hb0
        have q2 : ((m : Int) / 2 % 2 == 1) = false := by have : ¬ m / 2 % 2 = 1 := fun h => hB (.inr h); simp; omega
        clear hA hB
        go_wp2_with (go_at_call 70; (try rw [ee]); refine (C2.out _ HB.out.2 _).mono ?_; rintro x w3 ⟨rfl, rfl⟩)
        go_ret
        exact ⟨by rw [HB.out.1]; rfl, B2.out⟩
    · have q1 : ((m : Int) % 2 == 1) = false := by simp; omega
      rw [q1]
      have HB : Hid (bumpN m b0 = m / 2 ∧ m / 2 ≤ 9007199254740992) := Lib.hid ⟨by unfold bumpN; rw [if_neg (fun h => hA h.1)]; rfl, by omega⟩
      clear hA
      go_wp2_with (go_at_call 70; (try rw [ee]); refine (C2.out _ HB.out.2 _).mono ?_; rintro x w3 ⟨rfl, rfl⟩)
      go_ret
      exact ⟨by rw [HB.out.1]; rfl, B2.out⟩
end Go.Proofs.YtjkifbkehochoaaGreatDoor
