/- galleyref03.Shortest. galleyref03.Shortest: the walk. -/
import Derived.Test.YtjkifbkehochoaaGreatDoorDlD
import Derived.Test.YtjkifbkehochoaaGreatDoorMgDkB
namespace Go.Proofs.YtjkifbkehochoaaGreatDoor.R
open Go.RowKit Fl

theorem ratio_scale (b : Nat) (p : Int) (n : Nat) : ∃ c, 0 < c ∧ numS (V b) p n = pM b * 2 ^ ((pE b : Int) - 1074).toNat * 10 ^ (-(p - n)).toNat * c ∧ denS p n = 2 ^ (-((pE b : Int) - 1074)).toNat * 10 ^ (p - n).toNat * c := by
  unfold numS denS
  have hv : V b = pM b * 2 ^ pE b := val_parts b
  rw [hv, show (-(p - (n : Int))).toNat = ((n : Int) - p).toNat by omega]
  have eK : K = 1074 := rfl
  rcases Int.lt_or_le ((pE b : Int) - 1074) 0 with h | h
  · refine ⟨2 ^ pE b, Nat.two_pow_pos _, ?_, ?_⟩
    · rw [show ((pE b : Int) - 1074).toNat = 0 by omega, Nat.pow_zero, Nat.mul_one, Nat.mul_right_comm]
    · rw [Nat.mul_right_comm, ← Nat.pow_add, show (-((pE b : Int) - 1074)).toNat + pE b = K by omega]; rfl
  · refine ⟨TK, TK_pos, ?_, ?_⟩
    · have e : 2 ^ pE b = 2 ^ ((pE b : Int) - 1074).toNat * TK := by
        unfold TK
        rw [← Nat.pow_add, show ((pE b : Int) - 1074).toNat + K = pE b by omega]
      rw [e, ← Nat.mul_assoc, Nat.mul_right_comm]
    · rw [show (-((pE b : Int) - 1074)).toNat = 0 by omega, Nat.pow_zero, Nat.one_mul, Nat.mul_comm]
theorem e17 {n : Nat} (h : n ≤ 17) : 10 ^ n ≤ 100000000000000000 := by
  have := Nat.pow_le_pow_right (show 0 < 10 by decide) h
  rwa [show (10 : Nat) ^ 17 = 100000000000000000 from by decide] at this
/-- ratio's contract, as the search wants it -/
theorem cRatioS {b n : Nat} {p : Int} (w : World) (h0 : 0 < b) (h1 : b < INF) (hp : IsP (V b) p) (n1 : 1 ≤ n) (n2 : n ≤ 17) :
    Calls Tryz.prog 46 #[.int .u64 b, .int .i64 (p - n)] w fun e w' => (∃ r, e = .returned (.tuple #[.int .u64 (qS (V b) p n : Nat), .int .i64 r]) ∧ ((0 < r ↔ denS p n < 2 * rS (V b) p n) ∧ (r = 0 ↔ denS p n = 2 * rS (V b) p n))) ∧ Below w.heap.size w w' := by
  have v0 : 0 < V b := by have := V_lt h0; omega
  have vI : V b ≤ V INF := V_le (Nat.le_of_lt h1)
  have hr := hp.range v0 vI
  obtain ⟨c, c0, e1, e2⟩ := ratio_scale b p n
  obtain ⟨X, hX⟩ : ∃ X, X = pM b * 2 ^ ((pE b : Int) - 1074).toNat * 10 ^ (-(p - n)).toNat := ⟨_, rfl⟩
  obtain ⟨Y, hY⟩ : ∃ Y, Y = 2 ^ (-((pE b : Int) - 1074)).toNat * 10 ^ (p - n).toNat := ⟨_, rfl⟩
  rw [← hX] at e1
  rw [← hY] at e2
  have y0 : 0 < Y := by rw [hY]; exact Nat.mul_pos (Nat.two_pow_pos _) (Nat.pow_pos (by decide))
  have hq : qS (V b) p n = X / Y := by unfold qS; rw [e1, e2, Nat.mul_div_mul_right _ _ c0]
  have hm : rS (V b) p n = X % Y * c := by unfold rS; rw [e1, e2, Nat.mul_mod_mul_right]
  have hlt := (q_range hp n1).2
  have h17 := e17 n2
  have hXY : X < 2305843009213693952 * Y := by
    rw [← Nat.div_lt_iff_lt_mul y0, ← hq]; omega
  refine (cRatio w h1 (by omega) (by omega) hX hY hXY).mono ?_
  rintro e w' ⟨⟨r, he, hc⟩, hb⟩
  refine ⟨⟨r, by rw [hq]; exact he, ?_⟩, hb⟩
  have hs := cmpR_sign (cmp_scale hc c0)
  rw [e2, hm, show 2 * (X % Y * c) = 2 * (X % Y) * c from (Nat.mul_assoc _ _ _).symm]
  exact ⟨hs.2.2, hs.2.1.trans eq_comm⟩
theorem le_bb {x n : Nat} (hx : x ≤ 1000000000000000000) (hn : n ≤ 400) : x * 10 ^ n < BB ^ 60 := by
  refine lt_pow32 (a := 60 + 4 * n) ?_ (by omega)
  rw [Nat.pow_add]
  refine Nat.mul_lt_mul_of_lt_of_le ?_ (ten_two n) (Nat.two_pow_pos _)
  have : (2 : Nat) ^ 60 = 1152921504606846976 := by decide
  omega
theorem le_bb1 {n : Nat} (hn : n ≤ 400) : 10 ^ n < BB ^ 60 := by
  have := le_bb (x := 1) (by decide) hn
  rwa [Nat.one_mul] at this
/-- what is chosen, by the two answers and the half -/
theorem sel_of {b n q : Nat} {p : Int} {r : Int} (hq : q = qS (V b) p n) (h1 : 0 < r ↔ denS p n < 2 * rS (V b) p n) (h2 : r = 0 ↔ denS p n = 2 * rS (V b) p n) :
    selS b p n = if rdS b p n q = true then (if rdS b p n (q + 1) = true ∧ (0 < r ∨ (r = 0 ∧ q % 2 = 1)) then some (q + 1) else some q) else if rdS b p n (q + 1) = true then some (q + 1) else none := by
  subst hq
  unfold selS
  by_cases k1 : rdS b p n (qS (V b) p n) = true
  · rw [if_pos k1, if_pos k1]
    by_cases k2 : rdS b p n (qS (V b) p n + 1) = true ∧ (denS p n < 2 * rS (V b) p n ∨ (denS p n = 2 * rS (V b) p n ∧ qS (V b) p n % 2 = 1))
    · rw [if_pos k2, if_pos ⟨k2.1, k2.2.imp h1.2 (fun h => ⟨h2.2 h.1, h.2⟩)⟩]
    · rw [if_neg k2, if_neg (fun h => k2 ⟨h.1, h.2.imp h1.1 (fun h => ⟨h2.1 h.1, h.2⟩)⟩)]
  · rw [if_neg k1, if_neg k1]
end Go.Proofs.YtjkifbkehochoaaGreatDoor.R

namespace Go.Proofs.YtjkifbkehochoaaGreatDoor.R
open Go.RowKit Fl

theorem te_ne {l : List Nat} (h0 : l.getD 0 0 ≠ 48) : ∀ k, 0 < k → 0 < te l 0 k
  | k + 1, _ => by
    rw [te]
    by_cases h : 0 < k + 1 ∧ l.getD k 0 = 48
    · rw [if_pos h]
      have : 0 < k := by
        rcases Nat.eq_zero_or_pos k with c | c
        · subst c; exact absurd h.2 h0
        · exact c
      exact te_ne h0 k this
    · rw [if_neg h]; omega
def strLen : Value → Nat
  | .string t => t.size
  | _ => 0
theorem u64_q {q : Nat} (h : q ≤ 100000000000000000) : IntKind.u64.wrap ((q : Int) + 1) = ((q + 1 : Nat) : Int) := by rw [IntKind.wrap_u64]; omega
set_option maxRecDepth 100000 in
set_option maxHeartbeats 4000000 in
theorem rShort (x : Nat) (w : World) (hx : U x) :
    Calls Tryz.prog 17 #[.float .f64 x] w fun e w' => (∃ z : ByteArray, e = .returned (.tuple #[.string z, .int .i64 (shP (rg x))]) ∧ bl z = shD (rg x)) ∧ Below w.heap.size w w' := by
  have mag := b_mag x hx
  have blt := rg_lt x
  obtain ⟨b, hbb⟩ : ∃ b, b = rg x := ⟨_, rfl⟩
  rw [← hbb] at mag blt ⊢
  clear hbb
  have bi : (b : Int) ≤ 9223372036854775807 := by omega
  by_cases hb : b = 0 ∨ INF ≤ b
  · have E1 : Hid (shD b = []) := Lib.hid (by unfold shD; rw [if_pos hb])
    have E2 : Hid (shP b = 0) := Lib.hid (by unfold shP; rw [if_pos hb])
    by_cases h0 : b = 0
    · have c1 : ((b : Int) == 0) = true := beq_iff_eq.2 (by omega)
      clear hb h0 blt
      go_enter Tryz.func17, Tryz.ntmps17
      go_wp2_with fail
      go_ret2
      exact ⟨⟨_, by rw [E2.out]; rfl, by rw [E1.out]; rfl⟩, Below.refl _ _⟩
    · have c1 : ((b : Int) == 0) = false := beq_eq_false_iff_ne.2 (by omega)
      have c2 : (9218868437227405312 : Int) ≤ (b : Int) := by have := hb.resolve_left h0; unfold INF at this; omega
      clear hb h0 blt
      go_enter Tryz.func17, Tryz.ntmps17
      go_wp2_with fail
      go_ret2
      exact ⟨⟨_, by rw [E2.out]; rfl, by rw [E1.out]; rfl⟩, Below.refl _ _⟩
  · have h0 : 0 < b := by
      rcases Nat.eq_zero_or_pos b with c | c
      · exact absurd (.inl c) hb
      · exact c
    have h1 : b < INF := Nat.lt_of_not_le (fun c => hb (.inr c))
    have c1 : ((b : Int) == 0) = false := beq_eq_false_iff_ne.2 (by omega)
    have c2 : ¬ (9218868437227405312 : Int) ≤ (b : Int) := by unfold INF at h1; omega
    have HB := Lib.hid (And.intro h0 h1)
    have v0 : 0 < V b := by have := V_lt h0; omega
    have vI : V b ≤ V INF := V_le (Nat.le_of_lt h1)
    have hp := place_is v0 vI
    obtain ⟨r1, r2⟩ := hp.range v0 vI
    have CPl := Lib.hid (fun w => cPlace (b := b) w h0 h1)
    have ED : Hid (shD b = trimD (dgs (shS b).1)) := Lib.hid (by unfold shD; rw [if_neg hb])
    have EP : Hid (shP b = placeF (V b) + Lib.nDigits (shS b).1 - (shS b).2) := Lib.hid (by unfold shP; rw [if_neg hb])
    have ES : Hid (shS b = srchS b (placeF (V b)) 17 1) := Lib.hid rfl
    obtain ⟨p, hpp⟩ : ∃ p, p = placeF (V b) := ⟨_, rfl⟩
    rw [← hpp] at hp r1 r2 CPl EP ES
    have HP := Lib.hid hp
    have CR := Lib.hid (fun (n : Nat) (w : World) (n1 : 1 ≤ n) (n2 : n ≤ 17) => cRatioS (b := b) (p := p) (n := n) w h0 h1 hp n1 n2)
    have CO := Lib.hid (fun (q : Nat) (w : World) (h : q ≤ 100000000000000000) => cOf q w (by omega))
    have CV := Lib.hid (fun (q n : Nat) (wx : World) (v : Value) (k : NV wx v q) (hq : q ≤ 100000000000000000) (hn : n ≤ 17) => cValue k (L := 60) (e := p - n) (by decide) (le_bb (by omega) (by omega)) (le_bb1 (by omega)) (by omega) (by omega))
    have CX := Lib.hid (fun (q n : Nat) (wx : World) (va vb : Value) (ka : NV wx va (q * 10 ^ (p - n).toNat)) (kb : NV wx vb (10 ^ (-(p - n)).toNat)) (hq : q ≤ 100000000000000000) (hn : n ≤ 17) => show Calls Tryz.prog 49 #[.agg #[va, vb], .int .u64 b] wx fun e w' => e = .returned (.bool (rdS b p n q)) ∧ Below wx.heap.size wx w' from by
      have h := cReads (agP ka kb (L := 60) (by decide) (le_bb (by omega) (by omega)) (le_bb1 (by omega))) (Nat.pow_pos (by decide)) h0 h1
      unfold rdS
      rw [show (-(p - (n : Int))).toNat = ((n : Int) - p).toNat by omega] at h
      exact h)
    clear hb h0 h1 v0 vI hp hpp blt
    go_enter Tryz.func17, Tryz.ntmps17
    go_upto_region 6 with (go_at_call 45; refine (CPl.out _).mono ?_; rintro e w1 ⟨rfl, hb⟩; have B1 := Lib.hid hb; clear hb)
    clear CPl
    go_loopw [6] (fun u wx => ∃ n : Nat, u = .int .i64 n ∧ 1 ≤ n ∧ n ≤ 17 ∧ Hid (srchS b p (18 - n) n = shS b) ∧ Hid (Below w.heap.size w wx)) (fun u _ => 18 - (intOf u).toNat)
    case atStart => exact ⟨1, rfl, Nat.le_refl _, by decide, Lib.hid ES.out.symm, B1⟩
    case round =>
      obtain ⟨n, rfl, n1, n2, hS, hB⟩ := hrel
      clear B1
      have n1i : (1 : Int) ≤ (n : Int) := by omega
      have n2i : (n : Int) ≤ 17 := by omega
      have HN := Lib.hid (And.intro n1 n2)
      have q17 := Nat.le_trans (Nat.le_of_lt (q_range HP.out n1).2) (e17 n2)
      have CRn := Lib.hid (fun w => CR.out n w n1 n2)
      obtain ⟨q, hq⟩ : ∃ q, q = qS (V b) p n := ⟨_, rfl⟩
      have HQ := Lib.hid hq
      rw [← hq] at CRn q17
      have q99 : q < 100000000000000000 := by
        rw [hq]; exact Nat.lt_of_lt_of_le (q_range HP.out n1).2 (e17 n2)
      have COq := Lib.hid (fun w => CO.out q w (by omega))
      have COq1 := Lib.hid (fun w => CO.out (q + 1) w (by omega))
      have CVq := Lib.hid (fun wx v k => CV.out q n wx v k (by omega) n2)
      have CVq1 := Lib.hid (fun wx v k => CV.out (q + 1) n wx v k (by omega) n2)
      have CXq := Lib.hid (fun wx va vb ka kb => CX.out q n wx va vb ka kb (by omega) n2)
      have CXq1 := Lib.hid (fun wx va vb ka kb => CX.out (q + 1) n wx va vb ka kb (by omega) n2)
      have wq := u64_q q17
      have qi : (q : Int) ≤ 99999999999999999 := by omega
      obtain ⟨q1, hq1⟩ : ∃ q1, q1 = q + 1 := ⟨_, rfl⟩
      rw [← hq1] at COq1 CVq1 CXq1 wq
      have HQ1 := Lib.hid hq1
      have wq2 : (q : Int) + 1 = (q1 : Int) := by omega
      have SO := Lib.hid (fun (r : Int) h1 h2 => sel_of (b := b) (n := n) (q := q) (p := p) (r := r) HQ.out h1 h2)
      rw [← hq1] at SO
      generalize rdS b p n q = L at *
      generalize rdS b p n q1 = H at *
      clear hq hq1 q17 q99 n1 n2
      go_upto_region 11 with (first
        | (go_at_call 46; refine (CRn.out _).mono ?_; rintro e w2 ⟨⟨r, rfl, hr1, hr2⟩, hb⟩; have S1 := Lib.hid (SO.out r hr1 hr2); have B2 := Lib.hid (hB.out.trans (hb.mono hB.out.size)); clear hb hr1 hr2)
        | (go_at_call 48; with_reducible refine (COq.out _).mono ?_; rintro e w3 ⟨hb, v3, rfl, hv3, -⟩; have B3 := Lib.hid (B2.out.trans (hb.mono B2.out.size)); have K3 := Lib.hid hv3; clear hb hv3)
        | (go_at_call 47; with_reducible refine (CVq.out _ _ K3.out).mono ?_; rintro e w4 ⟨hb, va, vb, rfl, hva, hvb⟩; have B4 := Lib.hid (B3.out.trans (hb.mono B3.out.size)); have K4 := Lib.hid (And.intro hva hvb); clear hb hva hvb)
        | (go_at_call 49; with_reducible refine (CXq.out _ _ _ K4.out.1 K4.out.2).mono ?_; rintro e w5 ⟨rfl, hb⟩; have B5 := Lib.hid (B4.out.trans (hb.mono B4.out.size)); clear hb)
        | (go_at_call 48; with_reducible refine (COq1.out _).mono ?_; rintro e w6 ⟨hb, v6, rfl, hv6, -⟩; have B6 := Lib.hid (B5.out.trans (hb.mono B5.out.size)); have K6 := Lib.hid hv6; clear hb hv6)
        | (go_at_call 47; with_reducible refine (CVq1.out _ _ K6.out).mono ?_; rintro e w7 ⟨hb, va1, vb1, rfl, hva, hvb⟩; have B7 := Lib.hid (B6.out.trans (hb.mono B6.out.size)); have K7 := Lib.hid (And.intro hva hvb); clear hb hva hvb)
        | (go_at_call 49; with_reducible refine (CXq1.out _ _ _ K7.out.1 K7.out.2).mono ?_; rintro e w8 ⟨rfl, hb⟩; have B8 := Lib.hid (B7.out.trans (hb.mono B7.out.size)); clear hb))
      clear CRn COq COq1 CVq CVq1 CXq CXq1 B2 B3 B4 B5 B6 B7 K3 K4 K6 K7
      obtain ⟨N, hN⟩ : ∃ N, N = (!L && !H) := ⟨_, rfl⟩
      have HN2 := Lib.hid hN
      clear hN
      go_cut [58] (fun u wx => u = .bool N ∧ wx = w8)
      case first =>
        have E := HN2.out
        cases L <;> cases H
        all_goals
          have EE := Lib.hid E
          clear E
          go_wp2_with fail
          go_meet
          exact ⟨by rw [EE.out] <;> rfl, rfl⟩
      case rest =>
        obtain ⟨rfl, rfl⟩ := hcut
        cases N
        · obtain ⟨G, hG⟩ : ∃ G, G = (!L || (H && (decide (0 < r) || (decide (r = 0) && decide (q % 2 = 1))))) := ⟨_, rfl⟩
          have HG := Lib.hid hG
          obtain ⟨d, hd⟩ : ∃ d, d = if G = true then q1 else q := ⟨_, rfl⟩
          have HD := Lib.hid hd
          have SEL : Hid (selS b p n = some d) := Lib.hid (by
            rw [S1.out, hd, hG]
            have E := HN2.out
            cases L <;> cases H <;> simp at E ⊢
            by_cases c : 0 < r ∨ (r = 0 ∧ q % 2 = 1)
            · rw [if_pos c, if_pos c]
            · rw [if_neg c, if_neg c])
          have DB : Hid (d ≤ 100000000000000000 ∧ 0 < d) := Lib.hid (by
            have h1 := q_range HP.out (n := n) HN.out.1
            have h2 := e17 HN.out.2
            rw [← HQ.out] at h1
            have h3 := Nat.pow_pos (n := n - 1) (show 0 < 10 by decide)
            have := HQ1.out
            rw [hd]; split <;> omega)
          clear hG hd
          go_upto_region 12 with fail
          go_cut [76] (fun u wx => u = .bool G ∧ wx = wc)
          case first =>
            have E := HG.out
            have E0 := HN2.out
            have par : q % 2 = 0 ∨ q % 2 = 1 := by omega
            cases L
            · have EE : Hid (G = true) := Lib.hid (by rw [E]; rfl)
              clear E E0
              go_wp2_with fail
              go_meet
              exact ⟨by rw [EE.out] <;> rfl, rfl⟩
            · cases H
              · have EE : Hid (G = false) := Lib.hid (by rw [E]; rfl)
                clear E E0
                go_wp2_with fail
                go_meet
                exact ⟨by rw [EE.out] <;> rfl, rfl⟩
              · rcases Int.lt_trichotomy r 0 with c | c | c
                · have EE : Hid (G = false) := Lib.hid (by rw [E, decide_eq_false (show ¬ 0 < r by omega), decide_eq_false (show ¬ r = 0 by omega)]; rfl)
                  have c1 : ¬ (0 : Int) < r := by omega
                  have c2 : (r == 0) = false := beq_eq_false_iff_ne.2 (by omega)
                  clear E E0 c
                  go_wp2_with fail
                  go_meet
                  exact ⟨by rw [EE.out] <;> rfl, rfl⟩
                · subst c
                  rcases par with c | c
                  · have EE : Hid (G = false) := Lib.hid (by rw [E, c]; rfl)
                    have c1 : (q : Int) % 2 = 0 := by omega
                    clear E E0 c
                    go_wp2_with fail
                    go_meet
                    exact ⟨by rw [EE.out] <;> rfl, rfl⟩
                  · have EE : Hid (G = true) := Lib.hid (by rw [E, c]; rfl)
                    have c1 : (q : Int) % 2 = 1 := by omega
                    clear E E0 c
                    go_wp2_with fail
                    go_meet
                    exact ⟨by rw [EE.out] <;> rfl, rfl⟩
                · have EE : Hid (G = true) := Lib.hid (by rw [E, decide_eq_true c]; rfl)
                  clear E E0
                  go_wp2_with fail
                  go_meet
                  exact ⟨by rw [EE.out] <;> rfl, rfl⟩
          case rest =>
            obtain ⟨rfl, rfl⟩ := hcut
            go_upto_if 76 with fail
            go_cut [7] (fun u wx => u = .int .u64 (d : Int) ∧ wx = wc)
            case first =>
              cases G
              · have EE : Hid (d = q) := Lib.hid (by rw [HD.out]; rfl)
                go_wp2_with fail
                go_meet
                exact ⟨by rw [EE.out] <;> rfl, rfl⟩
              · have EE : Hid (d = q1) := Lib.hid (by rw [HD.out]; rfl)
                go_wp2_with fail
                go_meet
                exact ⟨by rw [EE.out] <;> rfl, rfl⟩
            case rest =>
              obtain ⟨rfl, rfl⟩ := hcut
              have CN := Lib.hid (fun w => cNumber d w (by have := DB.out; omega))
              have SH : Hid (shS b = (d, n)) := Lib.hid (by
                have h := hS.out
                have := HN.out
                rw [show 18 - n = (17 - n) + 1 by omega, srch_some SEL.out] at h
                exact h.symm)
              have R1 : Hid (shD b = trimD (dgs d)) := Lib.hid (by rw [ED.out, SH.out])
              have R2 : Hid (shP b = p + Lib.nDigits d - n) := Lib.hid (by rw [EP.out, SH.out])
              have nd : Lib.nDigits d ≤ 18 := nd_le (by have := DB.out; have : (10 : Nat) ^ 18 = 1000000000000000000 := by decide
                                                        omega) (by decide)
              have ND := Lib.hid nd
              have ndi : (Lib.nDigits d : Int) ≤ 18 := by omega
              clear SO S1 HN2 HG HD ED EP ES hS CR CO CV CX nd wq wq2
              go_upto_region 16 with (go_at_call 50; refine (CN.out _).mono ?_; rintro e w9 ⟨⟨z, rfl, hz⟩, hb⟩; have Z := Lib.hid hz; have B9 := Lib.hid (B8.out.trans (hb.mono B8.out.size)); have zs : (z.size : Int) = (Lib.nDigits d : Int) := (by have h1 := congrArg List.length hz; rw [bl_len, dgs_len] at h1; omega); clear hb hz)
              go_loopw [11] (fun u wx => ∃ (k : Nat) (t : ByteArray), u = .string t ∧ Hid (0 < k ∧ k ≤ (dgs d).length ∧ bl t = (dgs d).take k ∧ te (dgs d) 0 k = te (dgs d) 0 (dgs d).length) ∧ wx = w9) (fun u _ => strLen u)
              case atStart =>
                refine ⟨(dgs d).length, z, rfl, Lib.hid ⟨List.length_pos_iff.2 (dgs_ne d), Nat.le_refl _, by rw [Z.out, List.take_length], rfl⟩, rfl⟩
              case round =>
                obtain ⟨k, t, rfl, hI, rfl⟩ := hrel
                obtain ⟨j, rfl⟩ : ∃ j, k = j + 1 := ⟨k - 1, by have := hI.out.1; omega⟩
                have tk : t.size = j + 1 := by
                  rw [← bl_len, hI.out.2.2.1, List.length_take]
                  have := hI.out.2.1
                  omega
                have TK := Lib.hid tk
                have jl : j + 1 ≤ 18 := by
                  have h1 := hI.out.2.1
                  rw [dgs_len] at h1
                  have := ND.out
                  omega
                have t1 : (t.size : Int) - 1 = (j : Int) := by omega
                have t2 : (t.size : Int) ≤ 18 := by omega
                have t3 : (j : Int) < (t.size : Int) := by omega
                have t4 : (j : Int) ≤ (t.size : Int) := by omega
                have jt : j < t.size := by omega
                have gx : (dgs d).getD j 0 = (t[j]).toNat := by
                  rw [← bl_getD t j jt, hI.out.2.2.1, List.getD, List.getD, List.getElem?_take, if_pos (by omega)]
                have hte := hI.out.2.2.2
                rw [te, gx] at hte
                by_cases h48 : (t[j]).toNat = 48
                · rw [if_pos ⟨by omega, h48⟩] at hte
                  have j0 : 0 < j := by
                    rcases Nat.eq_zero_or_pos j with c | c
                    · subst c
                      exact absurd (gx.trans h48) (dgs_head d DB.out.2)
                    · exact c
                  have E : Hid (0 < j ∧ j ≤ (dgs d).length ∧ bl (t.extract 0 j) = (dgs d).take j ∧ te (dgs d) 0 j = te (dgs d) 0 (dgs d).length) := Lib.hid ⟨j0, by have := hI.out.2.1; omega, by
                    rw [bl_extract, List.drop_zero, hI.out.2.2.1, List.take_take, Nat.min_eq_left (by omega)], hte⟩
                  have es : Hid ((t.extract 0 j).size = j) := Lib.hid (by rw [ByteArray.size_extract]; omega)
                  have b0 : ((t[j]).toNat : Int) = 48 := by omega
                  clear hte gx h48 j0 tk jl
                  go_wp2_with fail
                  go_roundw
                  case rel => exact ⟨j, _, rfl, E, trivial⟩
                  case measure =>
                    show (t.extract 0 j).size < t.size
                    rw [es.out]; exact jt
                · rw [if_neg (fun e => h48 e.2)] at hte
                  have E : Hid (bl t = trimD (dgs d)) := Lib.hid (by rw [hI.out.2.2.1]; unfold trimD; rw [← hte])
                  have E2 : Hid (p - (n : Int) + (Lib.nDigits d : Int) = shP b) := Lib.hid (by rw [R2.out]; omega)
                  have b0 : (((t[j]).toNat : Int) == 48) = false := beq_eq_false_iff_ne.2 (by omega)
                  clear hte gx h48 tk jl
                  go_wp2_with fail
                  go_ret2
                  exact ⟨⟨t, by rw [← E2.out]; rfl, by rw [E.out, R1.out]⟩, B9.out⟩
        · have NONE : selS b p n = none := by
            rw [S1.out]
            have E := HN2.out
            cases L <;> cases H <;> simp at E ⊢
          have n17 : n ≠ 17 := fun e => by
            subst e
            obtain ⟨d, hd⟩ := sel_17 HB.out.1 HB.out.2 HP.out
            rw [hd] at NONE; cases NONE
          have E : Hid (1 ≤ n + 1 ∧ n + 1 ≤ 17 ∧ srchS b p (18 - (n + 1)) (n + 1) = shS b) := Lib.hid ⟨by omega, by have := HN.out; omega, by
            have h := hS.out
            have := HN.out
            rw [show 18 - n = (18 - (n + 1)) + 1 by omega, srch_none NONE] at h
            exact h⟩
          clear NONE n17 SO S1 HN2 ED EP ES hS CR CO CV CX wq wq2
          go_wp2_with fail
          go_roundw
          case rel => exact ⟨n + 1, by go_num, E.out.1, E.out.2.1, Lib.hid E.out.2.2, B8⟩
          case measure => have := E.out; simp [intOf] <;> omega
end Go.Proofs.YtjkifbkehochoaaGreatDoor.R
