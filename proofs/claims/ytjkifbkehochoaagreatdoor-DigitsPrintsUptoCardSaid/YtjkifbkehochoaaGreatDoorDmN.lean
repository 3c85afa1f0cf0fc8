/- galleyref03.Print. -/
import Derived.Test.YtjkifbkehochoaaGreatDoorMgDmK
import Derived.Test.YtjkifbkehochoaaGreatDoorMgDlE
namespace Go.Proofs.YtjkifbkehochoaaGreatDoor.R
open Go.RowKit Fl

theorem bodyF_inf : bodyF INF = [73, 110, 102, 105, 110, 105, 116, 121] := by unfold bodyF; rw [if_neg (by decide), if_pos rfl]
set_option maxRecDepth 100000 in
set_option maxHeartbeats 1000000 in
theorem cZeros (k : Int) (h0 : 0 ≤ k) (h1 : k ≤ 1000) (w : World) : Calls Tryz.prog 51 #[.int .i64 k] w fun e w' => (∃ r : ByteArray, e = .returned (.string r) ∧ bl r = List.replicate k.toNat 48 ∧ (r.size : Int) = k) ∧ w = w' := by
  go_enter Tryz.func51, Tryz.ntmps51
  go_wp2_with fail
  go_loopw [3, 4] (fun s i wx => ∃ (j : Nat) (t : ByteArray), s = .string t ∧ i = .int .i64 j ∧ (j : Int) ≤ k ∧ (t.size : Int) = j ∧ Hid (bl t = List.replicate j 48) ∧ wx = w) (fun _ i _ => k.toNat - (intOf i).toNat)
  case atStart => exact ⟨0, _, rfl, rfl, h0, rfl, Lib.hid rfl, rfl⟩
  case round =>
    obtain ⟨j, t, rfl, rfl, hj, ht, hT, rfl⟩ := hrel
    by_cases c : (j : Int) < k
    · have t1 : (t.size : Int) ≤ 1000 := by omega
      have E : Hid (bl (t ++ ⟨#[48]⟩) = List.replicate (j + 1) 48) := Lib.hid (by
        rw [bl_append, hT.out, List.replicate_succ']; rfl)
      have E2 : Hid (((t ++ ⟨#[48]⟩ : ByteArray).size : Int) = ((j + 1 : Nat) : Int)) := Lib.hid (by
        rw [ByteArray.size_append]; have : (⟨#[48]⟩ : ByteArray).size = 1 := rfl; omega)
      have c2 := Lib.hid c
      go_wp2_with fail
      go_roundw
      case rel => exact ⟨j + 1, _, rfl, by go_num, by have := c2.out; omega, E2.out, E, trivial⟩
      case measure => have := c2.out; simp [intOf]; omega
    · have E : Hid (bl t = List.replicate k.toNat 48 ∧ (t.size : Int) = k) := Lib.hid ⟨by rw [hT.out, show k = (j : Int) by omega, Int.toNat_natCast], by omega⟩
      go_wp2_with fail
      go_ret
      exact ⟨⟨_, rfl, E.out.1, E.out.2⟩, rfl⟩
theorem cNum (k : Int) (h0 : 0 ≤ k) (h1 : k ≤ 1000) (w : World) : Calls Tryz.prog 50 #[.int .u64 k] w fun e w' => (∃ r : ByteArray, e = .returned (.string r) ∧ bl r = dgs k.toNat ∧ (r.size : Int) ≤ 4) ∧ Below w.heap.size w w' := by
  obtain ⟨n, rfl⟩ : ∃ n : Nat, k = n := ⟨k.toNat, by omega⟩
  refine (cNumber n w (by omega)).mono ?_
  rintro e w' ⟨⟨r, rfl, hr⟩, hb⟩
  have h2 := dgs_short (n := n) (by omega)
  exact ⟨⟨r, rfl, by rw [hr, Int.toNat_natCast], by rw [← bl_len, hr]; omega⟩, hb⟩
set_option maxRecDepth 100000 in
set_option maxHeartbeats 4000000 in
theorem rPrint (x : Nat) (w : World) (hx : U x) :
    Calls Tryz.prog 18 #[.float .f64 x] w fun e w' => (∃ z : ByteArray, e = .returned (.string z) ∧ bl z = printF x) ∧ Below w.heap.size w w' := by
  have mag := b_mag x hx
  have sgn := sgn_ne x hx
  have CH := Lib.hid (fun w => rShort x w hx)
  have FB : Hid (printF x = if INF < rg x then [78, 97, 78] else (if sg x = true then [45] else []) ++ bodyF (rg x)) := Lib.hid rfl
  have blt := rg_lt x
  generalize rg x = b at *
  obtain ⟨S, hS⟩ : ∃ S : ByteArray, S = if sg x = true then ⟨#[45]⟩ else ⟨#[]⟩ := ⟨_, rfl⟩
  have SB : Hid (bl S = if sg x = true then [45] else []) := Lib.hid (by rw [hS]; cases sg x <;> rfl)
  have SZ : (S.size : Int) ≤ 1 := by rw [hS]; cases sg x <;> decide
  have HS := Lib.hid hS
  clear hS hx
  generalize sg x = sx at *
  have bi : (b : Int) ≤ 9223372036854775807 := by omega
  go_enter Tryz.func18, Tryz.ntmps18
  go_upto_if 13 with fail
  go_cut [4] (fun u wx => u = .string S ∧ wx = w)
  case first =>
    cases sx
    · go_wp2_with fail
      go_meet
      exact ⟨by rw [HS.out] <;> rfl, rfl⟩
    · go_wp2_with fail
      go_meet
      exact ⟨by rw [HS.out] <;> rfl, rfl⟩
  case rest =>
    obtain ⟨rfl, rfl⟩ := hcut
    by_cases c0 : b = 0
    · have HR : Hid (bl S ++ [48] = printF x) := Lib.hid (by rw [FB.out, if_neg (by unfold INF; omega), SB.out, c0]; rfl)
      have g0 : ((b : Int) == 0) = true := beq_iff_eq.2 (by omega)
      clear FB SB HS c0 CH
      go_wp2_with fail
      go_ret
      exact ⟨⟨_, rfl, by rw [bl_append, ← HR.out]; rfl⟩, Below.refl _ _⟩
    · have g0 : ((b : Int) == 0) = false := beq_eq_false_iff_ne.2 (by omega)
      by_cases cI : b = INF
      · have HR : Hid (bl S ++ [73, 110, 102, 105, 110, 105, 116, 121] = printF x) := Lib.hid (by rw [FB.out, if_neg (by omega), SB.out, cI, bodyF_inf])
        have gI : ((b : Int) == 9218868437227405312) = true := beq_iff_eq.2 (by unfold INF at cI; omega)
        clear FB SB HS c0 CH cI
        go_wp2_with fail
        go_ret
        exact ⟨⟨_, rfl, by rw [bl_append, ← HR.out]; rfl⟩, Below.refl _ _⟩
      · have gI : ((b : Int) == 9218868437227405312) = false := beq_eq_false_iff_ne.2 (by unfold INF at cI; omega)
        by_cases cN : INF < b
        · have HR : Hid (printF x = [78, 97, 78]) := Lib.hid (by rw [FB.out, if_pos cN])
          have gN : (9218868437227405312 : Int) < (b : Int) := by unfold INF at cN; omega
          clear FB SB HS c0 CH cI cN
          go_wp2_with fail
          go_ret
          exact ⟨⟨_, rfl, by rw [HR.out]; rfl⟩, Below.refl _ _⟩
        · have gN : ¬ (9218868437227405312 : Int) < (b : Int) := by unfold INF at cN; omega
          obtain ⟨l1, l2, p1, p2⟩ := sh_range (b := b) (by omega) (by omega)
          have FIN : Hid (printF x = bl S ++ printD (shD b) (shP b)) := Lib.hid (by rw [FB.out, if_neg cN, SB.out]; unfold bodyF; rw [if_neg c0, if_neg cI])
          clear FB SB HS c0 cI cN
          obtain ⟨l, hl⟩ : ∃ l, l = shD b := ⟨_, rfl⟩
          rw [← hl] at CH l1 l2 FIN
          generalize shP b = p at *
          clear hl
          go_upto_region 13 with (go_at_call 17; refine (CH.out _).mono ?_; rintro e w2 ⟨⟨z, rfl, hz⟩, hb⟩; have B2 := Lib.hid hb; have Z := Lib.hid hz; clear hb hz)
          have zs : (z.size : Int) = (l.length : Int) := by rw [← bl_len, Z.out]
          have z1 : (1 : Int) ≤ (z.size : Int) := by omega
          have z2 : (z.size : Int) ≤ 18 := by omega
          clear CH g0 gI gN l1 l2
          by_cases q1 : (z.size : Int) ≤ p ∧ p ≤ 21
          · obtain ⟨q1, q2⟩ := q1
            have E := Lib.hid (d1 (l := l) (p := p) (by omega) q2)
            have CR := Lib.hid (cZeros (p - (z.size : Int)) (by omega) (by omega))
            have ZS := Lib.hid zs
            clear zs
            go_wp2_with (go_at_call 51; refine (CR.out _).mono ?_; rintro e w3 ⟨⟨r, rfl, hr, rs⟩, rfl⟩; have R := Lib.hid hr; clear hr)
            go_ret
            exact ⟨⟨_, rfl, by rw [bl_append, bl_append, FIN.out, E.out, R.out, Z.out, ZS.out, List.append_assoc]⟩, B2.out⟩
          · by_cases q2 : 1 ≤ p ∧ p ≤ 21
            · obtain ⟨q2, q3⟩ := q2
              have q4 : ¬ (z.size : Int) ≤ p := by omega
              have E := Lib.hid (d2 (l := l) (p := p) (by omega) q2 q3)
              have q5 : p ≤ (z.size : Int) := by omega
              have q6 : 0 ≤ p := by omega
              have s1 : (z.extract 0 p.toNat).size = p.toNat := by rw [ByteArray.size_extract]; omega
              have s2 : (z.extract p.toNat z.size).size = z.size - p.toNat := by rw [ByteArray.size_extract]; omega
              have F1 := sl_to z p q6 q5
              have F2 := sl_from z p q6 q5
              clear q1 zs
              go_wp2_with fail
              go_quiet (fail)
              go_wp2_with fail
              go_ret
              exact ⟨⟨_, rfl, by simp only [bl_append, bl_to, bl_from, bl46, FIN.out, E.out, Z.out, List.append_assoc]⟩, BdN B2.out _⟩
            · by_cases q3 : -5 ≤ p ∧ p ≤ 0
              · obtain ⟨q3, q4⟩ := q3
                have q5 : ¬ (z.size : Int) ≤ p := by omega
                have q6 : ¬ (1 : Int) ≤ p := by omega
                have E := Lib.hid (d3 (l := l) (p := p) (by omega) q3 q4)
                have CR := Lib.hid (cZeros (-p) (by omega) (by omega))
                clear q1 q2 zs
                go_wp2_with (go_at_call 51; refine (CR.out _).mono ?_; rintro e w3 ⟨⟨r, rfl, hr, rs⟩, rfl⟩; have R := Lib.hid hr; clear hr)
                go_ret
                exact ⟨⟨_, rfl, by simp only [bl_append, bl0p, FIN.out, E.out, R.out, Z.out, List.append_assoc]⟩, B2.out⟩
              · have F1 := sl_to z 1 (by omega) z1
                have F2 := sl_from z 1 (by omega) z1
                have s1 : (z.extract 0 1).size = 1 := by rw [ByteArray.size_extract]; omega
                have s2 : (z.extract 1 z.size).size = z.size - 1 := by rw [ByteArray.size_extract]; omega
                by_cases n5 : p < -5
                · have q4 : ¬ (z.size : Int) ≤ p := by omega
                  have q5 : ¬ (1 : Int) ≤ p := by omega
                  have q6 : ¬ (-5 : Int) ≤ p := by omega
                  by_cases h1 : 1 < l.length
                  · have z3 : (1 : Int) < (z.size : Int) := by omega
                    have E := Lib.hid (d4 (l := l) (p := p) n5)
                    rw [if_pos (by omega)] at E
                    have CI := Lib.hid (cNum (1 - p) (by omega) (by omega))
                    have q9 : ¬ (0 : Int) ≤ p - 1 := by omega
                    clear q1 q2 q3 zs h1
                    go_wp2_with (go_at_call 50; refine (CI.out _).mono ?_; rintro e w3 ⟨⟨r, rfl, hr, rs⟩, hb⟩; have R := Lib.hid hr; have B3 := Lib.hid (B2.out.trans (hb.mono B2.out.size)); clear hb hr)
                    go_ret
                    exact ⟨⟨_, rfl, by simp only [bl_append, bl_to, bl_from, bl46, blm, blp, E.out, R.out, Z.out, FIN.out, List.append_assoc, List.cons_append, List.nil_append, List.append_nil]⟩, B3.out⟩
                  · have z3 : ¬ (1 : Int) < (z.size : Int) := by omega
                    have E := Lib.hid (d4 (l := l) (p := p) n5)
                    rw [if_neg (by omega)] at E
                    have CI := Lib.hid (cNum (1 - p) (by omega) (by omega))
                    have q9 : ¬ (0 : Int) ≤ p - 1 := by omega
                    clear q1 q2 q3 zs h1
                    go_wp2_with (go_at_call 50; refine (CI.out _).mono ?_; rintro e w3 ⟨⟨r, rfl, hr, rs⟩, hb⟩; have R := Lib.hid hr; have B3 := Lib.hid (B2.out.trans (hb.mono B2.out.size)); clear hb hr)
                    go_ret
                    exact ⟨⟨_, rfl, by simp only [bl_append, bl_to, bl_from, bl46, blm, blp, E.out, R.out, Z.out, FIN.out, List.append_assoc, List.cons_append, List.nil_append, List.append_nil]⟩, B3.out⟩
                · have n21 : 21 < p := by omega
                  have q4 : (z.size : Int) ≤ p := by omega
                  have q5 : (1 : Int) ≤ p := by omega
                  have q6 : (-5 : Int) ≤ p := by omega
                  have q7 : ¬ p ≤ 21 := by omega
                  have q8 : ¬ p ≤ 0 := by omega
                  clear n5
                  by_cases h1 : 1 < l.length
                  · have z3 : (1 : Int) < (z.size : Int) := by omega
                    have E := Lib.hid (d5 (l := l) (p := p) n21)
                    rw [if_pos (by omega)] at E
                    have CI := Lib.hid (cNum (p - 1) (by omega) (by omega))
                    have q9 : (0 : Int) ≤ p - 1 := by omega
                    clear q1 q2 q3 zs h1
                    go_wp2_with (go_at_call 50; refine (CI.out _).mono ?_; rintro e w3 ⟨⟨r, rfl, hr, rs⟩, hb⟩; have R := Lib.hid hr; have B3 := Lib.hid (B2.out.trans (hb.mono B2.out.size)); clear hb hr)
                    go_ret
                    exact ⟨⟨_, rfl, by simp only [bl_append, bl_to, bl_from, bl46, blm, blp, E.out, R.out, Z.out, FIN.out, List.append_assoc, List.cons_append, List.nil_append, List.append_nil]⟩, B3.out⟩
                  · have z3 : ¬ (1 : Int) < (z.size : Int) := by omega
                    have E := Lib.hid (d5 (l := l) (p := p) n21)
                    rw [if_neg (by omega)] at E
                    have CI := Lib.hid (cNum (p - 1) (by omega) (by omega))
                    have q9 : (0 : Int) ≤ p - 1 := by omega
                    clear q1 q2 q3 zs h1
                    go_wp2_with (go_at_call 50; refine (CI.out _).mono ?_; rintro e w3 ⟨⟨r, rfl, hr, rs⟩, hb⟩; have R := Lib.hid hr; have B3 := Lib.hid (B2.out.trans (hb.mono B2.out.size)); clear hb hr)
                    go_ret
                    exact ⟨⟨_, rfl, by simp only [bl_append, bl_to, bl_from, bl46, blm, blp, E.out, R.out, Z.out, FIN.out, List.append_assoc, List.cons_append, List.nil_append, List.append_nil]⟩, B3.out⟩
end Go.Proofs.YtjkifbkehochoaaGreatDoor.R
