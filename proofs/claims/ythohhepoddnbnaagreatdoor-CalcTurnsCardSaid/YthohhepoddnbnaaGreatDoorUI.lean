/- Rounded: under way. -/
import Derived.Test.YthohhepoddnbnaaGreatDoorMgUG
import Derived.Test.YthohhepoddnbnaaGreatDoorMgLgH
namespace Go.Proofs.YthohhepoddnbnaaGreatDoor
open Go.RowKit Fl

/-- a guarded load of a whole row -/
theorem wpList_load_g {P : Program} {ops : Array Oper} {rest : List Oper} {op : Oper} {a : Act} {w : World} {Q : Exit → Act → World → Prop} (hw : Region.wanted op (yielded ops a.tmps) = true) (ty : TypeId) (x : Operand) (ho : op.op = .load ty x)
    (b o : Nat) (hx : a.eval x = .pointer (some ⟨b, o, none⟩)) (cs : List Value) (d : TypeDesc) (hc : w.rangeAt b o cs)
    (hu : P.underlying ty = some d) (hd : d.isRow = true) (hi : (P.info? ty).map (·.size) = some cs.length)
    (h : wpList P ops Q rest (a.put op.dst (.agg cs.toArray)) w) : wpList P ops Q (op :: rest) a w :=
  wpList_step fun _ hK => by rw [if_pos hw]; exact wp_load_mid ty x ho b o hx cs d hc hu hd hi (hK _ _ h)
theorem end168 (a L M : Nat) (hL : a.log2 - 52 = L) (hM : M = rhe a (2 ^ L)) : min (near M ((L : Int) - 1074)) INF = rnd a := by
  unfold near rnd
  rw [show ((L : Int) - 1074 + 1074).toNat = L by omega, show (-1074 - ((L : Int) - 1074)).toNat = 0 by omega, hM, ← hL, place_round]
theorem ret168 (a L M : Nat) (hL : a.log2 - 52 = L) (hM : M = rhe a (2 ^ L)) : RetF (rnd a : Nat) (.returned (.float .f64 (min (near M ((L : Int) - 1074)) INF))) := by
  rw [end168 a L M hL hM]
  exact ⟨rnd a, rfl, U_small (rnd_le a), pl_small _ (rnd_le a)⟩
/-- is the number rounded up behind a half? -/
def moreB (m a i : Nat) : Bool := decide (m % 2 = 1 ∨ a % 2 ^ i ≠ 0)
theorem moreB_zero (m a : Nat) : moreB m a 0 = decide (m % 2 = 1) := by
  unfold moreB; rw [Nat.pow_zero, Nat.mod_one]; simp
theorem moreB_succ (m a i : Nat) : moreB m a (i + 1) = (moreB m a i || decide (a / 2 ^ i % 2 = 1)) := by
  unfold moreB
  have h := low_step a i
  have hb : a / 2 ^ i % 2 < 2 := Nat.mod_lt _ (by decide)
  rw [← Bool.decide_or]
  exact decide_eq_decide.2 (by omega)
theorem moreB_end (a l : Nat) (h : a / 2 ^ l % 2 = 1) : a / 2 ^ (l + 1) + (if moreB (a / 2 ^ (l + 1)) a l = true then 1 else 0) = rhe a (2 ^ (l + 1)) := by
  rw [half_rhe]
  unfold moreB
  by_cases c : a / 2 ^ (l + 1) % 2 = 1 ∨ a % 2 ^ l ≠ 0
  · rw [decide_eq_true c, if_pos rfl, if_pos ⟨h, c⟩]
  · rw [decide_eq_false c, if_neg Bool.false_ne_true, if_neg (fun h => c h.2)]
set_option maxRecDepth 100000 in
set_option maxHeartbeats 4000000 in
theorem c168 (a : Nat) (w : World) (ha : a < 2 ^ (32 * RC)) : Calls Tryz.prog 54 #[.agg (UL a).toArray] w fun e w' => RetF (rnd a : Nat) e ∧ Below w.heap.size w w' := by
  have R0 := Lib.hid (urow_new w a 80)
  have B0 := Lib.hid (show Below w.heap.size w (w.alloc (.cells (UL a).toArray 80)) from (Below.refl _ _).alloc (Nat.le_refl _) _)
  have L0 := Lib.hid (show w.heap.size < (w.alloc (.cells (UL a).toArray 80)).heap.size by simp)
  have HA := Lib.hid (show a < 2 ^ (RC * 32) by rw [Nat.mul_comm]; exact ha)
  have E1 := Lib.hid (show (Tryz.prog.info? 80).map (·.size) = some (UL a).length by rw [UL_len]; exact size108)
  clear ha
  go_enter Tryz.func54, Tryz.ntmps54
  go_upto_block 0 with fail
  go_cut [3] (fun tt wx => ∃ N : Nat, tt = .int .i64 ((N : Int) - 1) ∧ Hid (N ≤ 2240 ∧ a < 2 ^ N ∧ a.log2 - 52 = N - 53) ∧ Hid (URow wx w.heap.size 0 (dg a) ∧ Below w.heap.size w wx ∧ w.heap.size < wx.heap.size))
  case first =>
    go_wp2_with fail
    go_loopw [3] (fun tt wx => ∃ t : Nat, tt = .int .i64 ((t : Int) - 1) ∧ Hid (t ≤ 2240) ∧ Hid (a < 2 ^ t) ∧ Hid (URow wx w.heap.size 0 (dg a) ∧ Below w.heap.size w wx ∧ w.heap.size < wx.heap.size)) (fun tt _ => (intOf tt + 1).toNat)
    case atStart => exact ⟨RC * 32, rfl, Lib.hid (by rw [RC_eq]; omega), HA, Lib.hid ⟨R0.out, B0.out, L0.out⟩⟩
    case round =>
      obtain ⟨t, rfl, ht, hT, hI⟩ := hrel
      clear R0 B0 L0 HA
      rcases Nat.eq_zero_or_pos t with h0 | h0
      · subst h0
        have ha0 : a = 0 := by have := hT.out; rw [Nat.pow_zero] at this; omega
        have E0 := Lib.hid ha0
        rw [show (((0 : Nat) : Int) - 1) = -1 from rfl]
        clear ha0 hT ht
        go_wp2_with fail
        go_meet
        exact ⟨0, rfl, Lib.hid ⟨by omega, by rw [E0.out]; decide, by rw [E0.out]; decide⟩, hI⟩
      · obtain ⟨u, rfl⟩ : ∃ u, t = u + 1 := ⟨t - 1, by omega⟩
        have hu : u < 2240 := by have := ht.out; omega
        have ej : ((u + 1 : Nat) : Int) - 1 = (u : Int) := by omega
        rw [ej]
        clear ej
        have u0 : (0 : Int) ≤ (u : Int) := by omega
        have u1 : (u : Int) < 2240 := by omega
        have RR := Lib.hid hI.out.1.range
        have HU := Lib.hid hu
        have hdiv : a / 2 ^ u < 2 := Nat.div_lt_of_lt_mul (by have := hT.out; rw [Nat.pow_succ] at this; omega)
        by_cases hb : a / 2 ^ u % 2 = 0
        · go_wp2_with (refine wpList_load_g rfl 80 (.tmp 1) rfl w.heap.size 0 rfl (UL a) _ RR.out Tryz.underlying80 rfl E1.out ?_)
          refine (c185 a u _ HU.out).mono ?_
          rintro e w2 ⟨rfl, hb2⟩
          have I2 := Lib.hid (And.intro (hI.out.1.below hb2 hI.out.2.2) (And.intro (hI.out.2.1.trans (hb2.mono (Nat.le_of_lt hI.out.2.2))) (Nat.lt_of_lt_of_le hI.out.2.2 hb2.size)))
          have hlow : a < 2 ^ u := by
            rcases Nat.lt_or_ge a (2 ^ u) with c | c
            · exact c
            · have h2 : 1 ≤ a / 2 ^ u := (Nat.le_div_iff_mul_le (Nat.two_pow_pos u)).2 (by omega)
              omega
          have HL := Lib.hid hlow
          have q : ((a : Int) / 2 ^ u % 2 == 0) = true := by
            rw [show ((a : Int) / 2 ^ u % 2) = ((a / 2 ^ u % 2 : Nat) : Int) by push_cast; rfl, hb]; rfl
          clear hb2 hI hlow hb hT hdiv
          go_wp2_with fail
          go_roundw
          case rel => exact ⟨u, rfl, Lib.hid (by have := HU.out; omega), HL, I2⟩
          case measure => simp [intOf]
        · go_wp2_with (refine wpList_load_g rfl 80 (.tmp 1) rfl w.heap.size 0 rfl (UL a) _ RR.out Tryz.underlying80 rfl E1.out ?_)
          refine (c185 a u _ HU.out).mono ?_
          rintro e w2 ⟨rfl, hb2⟩
          have I2 := Lib.hid (And.intro (hI.out.1.below hb2 hI.out.2.2) (And.intro (hI.out.2.1.trans (hb2.mono (Nat.le_of_lt hI.out.2.2))) (Nat.lt_of_lt_of_le hI.out.2.2 hb2.size)))
          have hge : 2 ^ u ≤ a := by
            rcases Nat.lt_or_ge a (2 ^ u) with c | c
            · rw [Nat.div_eq_of_lt c] at hb; omega
            · exact c
          have HL := Lib.hid (And.intro hT.out (log2_eq a u hge hT.out))
          have q : ((a : Int) / 2 ^ u % 2 == 0) = false := by
            rw [show ((a : Int) / 2 ^ u % 2) = ((a / 2 ^ u % 2 : Nat) : Int) by push_cast; rfl, show a / 2 ^ u % 2 = 1 by omega]; rfl
          clear hb2 hI hge hb hT hdiv
          go_wp2_with fail
          go_meet
          exact ⟨u + 1, by rw [show ((u + 1 : Nat) : Int) - 1 = (u : Int) by omega], Lib.hid ⟨by have := HU.out; omega, HL.out.1, by rw [HL.out.2]; omega⟩, I2⟩
  case rest =>
    obtain ⟨N, rfl, hN, hI⟩ := hcut
    clear R0 B0 L0 HA
    have n0 : (0 : Int) ≤ (N : Int) := by omega
    have n1 : (N : Int) ≤ 2240 := by have := hN.out.1; omega
    obtain ⟨L, hL⟩ : ∃ L : Nat, L = N - 53 := ⟨_, rfl⟩
    have mx : max (0 : Int) ((N : Int) - 1 - 52) = (L : Int) := by omega
    have l1 : (L : Int) ≤ 2240 := by omega
    have HL := Lib.hid hL
    clear hL
    have HB := Lib.hid (show ∀ i, L ≤ i → a / 2 ^ i < 9007199254740992 from fun i hi => by
      have h1 := hN.out.2.1
      have h2 : a < 2 ^ i * 9007199254740992 := Nat.lt_of_lt_of_le h1 (by
        rw [show (9007199254740992 : Nat) = 2 ^ 53 from rfl, ← Nat.pow_add]
        exact Nat.pow_le_pow_right (by decide) (by have := HL.out; omega))
      exact Nat.div_lt_of_lt_mul h2)
    go_upto_block 2 with fail
    go_cut [5] (fun mm wx => mm = .int .u64 ((a / 2 ^ L : Nat) : Int) ∧ Hid (URow wx w.heap.size 0 (dg a) ∧ Below w.heap.size w wx ∧ w.heap.size < wx.heap.size))
    case first =>
      go_wp2_with fail
      go_loopw [5, 6] (fun mm tt wx => ∃ i : Nat, tt = .int .i64 ((i : Int) - 1) ∧ mm = .int .u64 ((a / 2 ^ i : Nat) : Int) ∧ Hid (L ≤ i ∧ i ≤ N) ∧ Hid (URow wx w.heap.size 0 (dg a) ∧ Below w.heap.size w wx ∧ w.heap.size < wx.heap.size)) (fun _ tt _ => (intOf tt + 1).toNat)
      case atStart => exact ⟨N, rfl, by rw [Nat.div_eq_of_lt hN.out.2.1]; rfl, Lib.hid ⟨by have := HL.out; omega, Nat.le_refl _⟩, hI⟩
      case round =>
        obtain ⟨i, rfl, rfl, hi, hX⟩ := hrel
        clear hI mx
        rcases Nat.lt_or_eq_of_le hi.out.1 with hlt | heq
        · obtain ⟨j, rfl⟩ : ∃ j, i = j + 1 := ⟨i - 1, by omega⟩
          have ej : ((j + 1 : Nat) : Int) - 1 = (j : Int) := by omega
          rw [ej]
          clear ej
          have hj : j < 2240 := by have := hi.out; have := hN.out.1; omega
          have HJ := Lib.hid hj
          have t1 : (L : Int) ≤ (j : Int) := by omega
          have t2 : decide (L ≤ j) = true := decide_eq_true (by omega)
          have j0 : (0 : Int) ≤ (j : Int) := by omega
          have j1 : (j : Int) < 2240 := by omega
          have HM := Lib.hid (mant_step a j)
          have hb1 := HB.out (j + 1) (by omega)
          have RR := Lib.hid hX.out.1.range
          have HC := Lib.hid (fun wx => c185 a j wx hj)
          have hbit : a / 2 ^ j % 2 < 2 := Nat.mod_lt _ (by decide)
          generalize a / 2 ^ j % 2 = b at *
          generalize a / 2 ^ (j + 1) = m at *
          have m1 : (m : Int) < 9007199254740992 := by omega
          have b1 : (b : Int) < 2 := by omega
          clear hj hlt hb1 hbit
          go_wp2_with (refine wpList_load_mid rfl 80 (.tmp 1) rfl w.heap.size 0 rfl (UL a) _ RR.out Tryz.underlying80 rfl E1.out ?_)
          refine (HC.out _).mono ?_
          rintro e w2 ⟨rfl, hb2⟩
          have I2 := Lib.hid (And.intro (hX.out.1.below hb2 hX.out.2.2) (And.intro (hX.out.2.1.trans (hb2.mono (Nat.le_of_lt hX.out.2.2))) (Nat.lt_of_lt_of_le hX.out.2.2 hb2.size)))
          clear hb2 hX
          go_wp2_with fail
          go_roundw
          case rel => exact ⟨j, rfl, by rw [← HM.out]; push_cast; rfl, Lib.hid ⟨by omega, by have := hi.out; omega⟩, I2⟩
          case measure => simp [intOf]
        · subst heq
          have t1 : decide ((L : Int) ≤ (L : Int) - 1) = false := decide_eq_false (by omega)
          have t2 : (L : Int) - 1 < (L : Int) := by omega
          go_wp2_with fail
          go_meet
          exact ⟨rfl, hX⟩
    case rest =>
      obtain ⟨rfl, hI⟩ := hcut
      clear mx
      have hm := HB.out L (Nat.le_refl _)
      have hlog : a.log2 - 52 = L := by rw [hN.out.2.2, HL.out]
      rcases Nat.eq_zero_or_pos L with hz | hz
      · subst hz
        have M1 : Hid (a / 2 ^ 0 = rhe a (2 ^ 0)) := Lib.hid (by rw [Nat.pow_zero, rhe_one, Nat.div_one])
        have HG := Lib.hid (And.intro hlog (Nat.le_of_lt hm))
        clear hlog hm
        generalize a / 2 ^ 0 = m at *
        have e1 := fi_eq m
        go_wp2_with (go_at_call 90; fail)
        refine (c177 m _ _ HG.out.2 (by decide) (by decide)).mono ?_
        rintro e w2 ⟨rfl, rfl⟩
        clear e1
        go_wp2_with fail
        go_ret
        exact ⟨ret168 a 0 m HG.out.1 M1.out, hI.out.2.1⟩
      · obtain ⟨l, rfl⟩ : ∃ l, L = l + 1 := ⟨L - 1, by omega⟩
        have hl : l < 2240 := by omega
        have HLL := Lib.hid hl
        have HE := Lib.hid hlog
        have RR := Lib.hid hI.out.1.range
        have HC := Lib.hid (fun wx => c185 a l wx hl)
        have j0 : (0 : Int) ≤ (l : Int) := by omega
        have j1 : (l : Int) < 2240 := by omega
        have t0 : decide ((0 : Int) < ((l + 1 : Nat) : Int)) = true := decide_eq_true (by omega)
        have HM := Lib.hid hm
        have HH := Lib.hid (half_rhe a l)
        have HMB := Lib.hid (moreB_end a l)
        generalize a / 2 ^ (l + 1) = m at *
        have m0 : (0 : Int) ≤ (m : Int) := by omega
        have m1 : (m : Int) < 9007199254740992 := by omega
        clear hl hz hlog hm
        go_upto_if 42 with (refine wpList_load_g rfl 80 (.tmp 1) rfl w.heap.size 0 rfl (UL a) _ RR.out Tryz.underlying80 rfl E1.out ?_)
        refine (HC.out _).mono ?_
        rintro e w2 ⟨rfl, hb2⟩
        have I2 := Lib.hid (And.intro (hI.out.1.below hb2 hI.out.2.2) (And.intro (hI.out.2.1.trans (hb2.mono (Nat.le_of_lt hI.out.2.2))) (Nat.lt_of_lt_of_le hI.out.2.2 hb2.size)))
        have hbit : a / 2 ^ l % 2 < 2 := Nat.mod_lt _ (by decide)
        clear hb2 hI RR HC t0
        have k1 : (l : Int) + 1 - 1074 = ((l + 1 : Nat) : Int) - 1074 := by push_cast; rfl
        have K1 := Lib.hid k1
        clear k1
        rcases (by omega : a / 2 ^ l % 2 = 0 ∨ a / 2 ^ l % 2 = 1) with hz | hz
        · have M1 : Hid (m = rhe a (2 ^ (l + 1))) := Lib.hid (by rw [HH.out, if_neg (by omega)]; rfl)
          rw [hz]
          have e1 := fi_eq m
          clear hbit hz
          go_wp2_with (go_at_call 90; fail)
          refine (c177 m _ _ (Nat.le_of_lt HM.out) (by omega) (by omega)).mono ?_
          rintro e w3 ⟨rfl, rfl⟩
          clear e1
          go_wp2_with fail
          go_ret
          exact ⟨by rw [K1.out]; exact ret168 a (l + 1) m HE.out M1.out, I2.out.2.1⟩
        · have HZ := Lib.hid hz
          rw [hz]
          have q1 : (bits .and .u64 (m : Int) 1 == 1) = moreB m a 0 := by
            rw [moreB_zero, show (1 : Int) = ((1 : Nat) : Int) from rfl, u64_and_nat _ _ (by have := HM.out; omega) (by decide), Nat.and_one_is_mod]
            rcases Nat.mod_two_eq_zero_or_one m with c | c <;> rw [c] <;> rfl
          clear hbit hz
          go_upto_block 4 with fail
          go_wp2_with fail
          go_loopw [7, 8] (fun mm ii wx => ∃ i : Nat, ii = .int .i64 (i : Nat) ∧ mm = .bool (moreB m a i) ∧ Hid (i ≤ l) ∧ Hid (URow wx w.heap.size 0 (dg a) ∧ Below w.heap.size w wx ∧ w.heap.size < wx.heap.size)) (fun _ ii _ => l - (intOf ii).toNat)
          case atStart => exact ⟨0, rfl, rfl, Lib.hid (by omega), I2⟩
          case round =>
            obtain ⟨i, rfl, rfl, hi, hX⟩ := hrel
            clear I2 q1
            by_cases hlt : i < l
            · have hki : (i : Int) < (l : Int) := by omega
              have hk0 : (0 : Int) ≤ (i : Int) := by omega
              have hk1 : (i : Int) < 2240 := by omega
              have HLT := Lib.hid hlt
              have HMS := Lib.hid (moreB_succ m a i)
              have HC := Lib.hid (fun wx => c185 a i wx (by omega))
              have RR := Lib.hid hX.out.1.range
              cases hb : moreB m a i
              · have HBB := Lib.hid hb
                have hbit : a / 2 ^ i % 2 < 2 := Nat.mod_lt _ (by decide)
                have HBI := Lib.hid hbit
                clear hlt hb hbit
                go_wp2_with (refine wpList_load_g rfl 80 (.tmp 1) rfl w.heap.size 0 rfl (UL a) _ RR.out Tryz.underlying80 rfl E1.out ?_)
                refine (HC.out _).mono ?_
                rintro e w3 ⟨rfl, hb3⟩
                have I3 := Lib.hid (And.intro (hX.out.1.below hb3 hX.out.2.2) (And.intro (hX.out.2.1.trans (hb3.mono (Nat.le_of_lt hX.out.2.2))) (Nat.lt_of_lt_of_le hX.out.2.2 hb3.size)))
                clear hb3 hX RR HC
                rcases (by have := HBI.out; omega : a / 2 ^ i % 2 = 0 ∨ a / 2 ^ i % 2 = 1) with hc | hc
                · have HN : Hid (moreB m a (i + 1) = false) := Lib.hid (by rw [HMS.out, HBB.out, hc]; rfl)
                  rw [hc]
                  clear hc
                  go_wp2_with fail
                  go_roundw
                  case rel => exact ⟨i + 1, by go_num, by rw [HN.out], Lib.hid (by have := HLT.out; omega), I3⟩
                  case measure => have := HLT.out; simp [intOf]; omega
                · have HN : Hid (moreB m a (i + 1) = true) := Lib.hid (by rw [HMS.out, HBB.out, hc]; rfl)
                  rw [hc]
                  clear hc
                  go_wp2_with fail
                  go_roundw
                  case rel => exact ⟨i + 1, by go_num, by rw [HN.out], Lib.hid (by have := HLT.out; omega), I3⟩
                  case measure => have := HLT.out; simp [intOf]; omega
              · have HN : Hid (moreB m a (i + 1) = true) := Lib.hid (by rw [HMS.out, hb]; rfl)
                clear hlt hb RR HC
                go_wp2_with fail
                go_roundw
                case rel => exact ⟨i + 1, by go_num, by rw [HN.out], Lib.hid (by have := HLT.out; omega), hX⟩
                case measure => have := HLT.out; simp [intOf]; omega
            · have hil : i = l := by have := hi.out; omega
              subst hil
              clear hlt
              have HME := Lib.hid (HMB.out HZ.out)
              cases hb : moreB m a i
              · have M1 : Hid (m = rhe a (2 ^ (i + 1))) := Lib.hid (by rw [← HME.out, hb]; rfl)
                have e1 := fi_eq m
                clear hb
                go_wp2_with (go_at_call 90; fail)
                refine (c177 m _ _ (Nat.le_of_lt HM.out) (by omega) (by omega)).mono ?_
                rintro e w3 ⟨rfl, rfl⟩
                clear e1
                go_wp2_with fail
                go_ret
                exact ⟨by rw [K1.out]; exact ret168 a (i + 1) m HE.out M1.out, hX.out.2.1⟩
              · have M1 : Hid (m + 1 = rhe a (2 ^ (i + 1))) := Lib.hid (by rw [← HME.out, hb]; rfl)
                have e1 := fi_eq (m + 1)
                have e2 : floatOfInt .f64 ((m : Int) + 1) = fi (m + 1) := fi_eq (m + 1)
                clear hb
                go_wp2_with (go_at_call 90; fail)
                refine (c177 (m + 1) _ _ (by have := HM.out; omega) (by omega) (by omega)).mono ?_
                rintro e w3 ⟨rfl, rfl⟩
                clear e1 e2
                go_wp2_with fail
                go_ret
                exact ⟨by rw [K1.out]; exact ret168 a (i + 1) (m + 1) HE.out M1.out, hX.out.2.1⟩
end Go.Proofs.YthohhepoddnbnaaGreatDoor
