/- galleyref03.exponent. -/
import Derived.Test.YtjkifbkehochoaaGreatDoorMgDhL
import Derived.Deep.DeepCutAuto
namespace Go.Proofs.YtjkifbkehochoaaGreatDoor
open Go.RowKit Fl

theorem xI_zero {cap : Nat} {r : List Nat} (h : xN r = 0) : xI cap r = 0 := by
  have : xV r = 0 := by unfold xV; rw [h, List.take_zero]; rfl
  unfold xI
  rw [this, Nat.min_zero]
  split <;> rfl
theorem getD_none {l : List Nat} {k : Nat} (h : l.length ≤ k) : l.getD k 0 = 0 := by rw [List.getD, List.getElem?_eq_none h]; rfl
theorem cap_int {cap : Nat} (hc : 0 < cap) (v d : Nat) : min (cap : Int) (10 * ((min cap v : Nat) : Int) + (d : Int)) = ((min cap (v * 10 + d) : Nat) : Int) := by
  have := cap_step (x := d) (v := v) hc
  omega
/-- what a byte of a text is -/
theorem at_facts (s : ByteArray) (k : Nat) (h : k < s.size) : (bl s).getD k 0 = (s[k]).toNat := bl_getD s k h
set_option maxRecDepth 100000 in
set_option maxHeartbeats 2000000 in
theorem rExp (s : ByteArray) (w : World) (hs : s.size ≤ 1000000000) :
    Calls Tryz.prog 66 #[.string s] w fun e w' => e = .returned (.tuple #[.int .i64 (xI FAR4 (bl s)), .int .i64 (xSz (bl s) : Nat)]) ∧ w = w' := by
  have s1 : (s.size : Int) ≤ 1000000000 := by omega
  have LB := Lib.hid (bl_len s)
  obtain ⟨I, hI⟩ : ∃ I, I = xI FAR4 (bl s) := ⟨_, rfl⟩
  obtain ⟨Z, hZ⟩ : ∃ Z, Z = xSz (bl s) := ⟨_, rfl⟩
  rw [← hI, ← hZ]
  have HI := Lib.hid hI
  have HZ := Lib.hid hZ
  have zero : Hid (xN (bl s) = 0 → I = 0 ∧ Z = 0) := Lib.hid (fun h => ⟨by rw [HI.out, xI_zero h], by rw [HZ.out]; unfold xSz; rw [if_pos h]⟩)
  obtain ⟨E, hE⟩ : ∃ E, E = decide ((bl s).getD 0 0 = 101 ∨ (bl s).getD 0 0 = 69) := ⟨_, rfl⟩
  have HE := Lib.hid hE
  obtain ⟨A, hA⟩ : ∃ A, A = xAt (bl s) := ⟨_, rfl⟩
  have HA := Lib.hid hA
  obtain ⟨B, hB⟩ : ∃ B, B = decide ((bl s).getD 1 0 = 45) := ⟨_, rfl⟩
  have HB := Lib.hid hB
  obtain ⟨C, hC⟩ : ∃ C, C = decide ((bl s).getD 1 0 = 43 ∨ (bl s).getD 1 0 = 45) := ⟨_, rfl⟩
  have HC := Lib.hid hC
  have AC : Hid (A = if C = true then 2 else 1) := Lib.hid (by rw [HA.out, HC.out]; unfold xAt; simp only [decide_eq_true_eq])
  have HS := Lib.hid hs
  clear hI hZ hE hA hB hC hs
  go_enter Tryz.func66, Tryz.ntmps66
  go_upto_region 1 with fail
  go_cut [21] (fun u wx => u = .bool (!E) ∧ wx = w)
  case first =>
    by_cases h0 : 0 < s.size
    · have x0 := bl_getD s 0 h0
      have c6 : ((s.size : Int) == 0) = false := beq_eq_false_iff_ne.2 (by omega)
      by_cases c1 : (s[0]).toNat = 101
      · have EE : Hid (E = true) := Lib.hid (by rw [HE.out, x0]; exact decide_eq_true (.inl c1))
        have c1i : ((s[0]).toNat : Int) = 101 := by omega
        clear c1 x0
        go_wp2_with fail
        go_meet
        exact ⟨by rw [EE.out] <;> rfl, rfl⟩
      · have c1i : (((s[0]).toNat : Int) != 101) = true := bne_iff_ne.2 (by omega)
        by_cases c2 : (s[0]).toNat = 69
        · have EE : Hid (E = true) := Lib.hid (by rw [HE.out, x0]; exact decide_eq_true (.inr c2))
          have c2i : ((s[0]).toNat : Int) = 69 := by omega
          clear c1 c1i x0 c2
          go_wp2_with fail
          go_meet
          exact ⟨by rw [EE.out] <;> rfl, rfl⟩
        · have EE : Hid (E = false) := Lib.hid (by rw [HE.out, x0]; exact decide_eq_false (fun e => e.elim c1 c2))
          have c2i : (((s[0]).toNat : Int) != 69) = true := bne_iff_ne.2 (by omega)
          clear c1 c2 x0
          go_wp2_with fail
          go_meet
          exact ⟨by rw [EE.out] <;> rfl, rfl⟩
    · have c6 : ((s.size : Int) == 0) = true := beq_iff_eq.2 (by omega)
      have EE : Hid (E = false) := Lib.hid (by rw [HE.out, getD_none (by rw [LB.out]; omega)]; rfl)
      clear h0
      go_wp2_with fail
      go_meet
      exact ⟨by rw [EE.out] <;> rfl, rfl⟩
  case rest =>
    obtain ⟨rfl, rfl⟩ := hcut
    cases E
    · have EZ := Lib.hid (zero.out (by unfold xN; rw [if_neg (of_decide_eq_false HE.out.symm)]))
      clear zero
      go_wp2_with fail
      go_ret2
      exact ⟨by rw [EZ.out.1, EZ.out.2]; rfl, rfl⟩
    · have c1 := of_decide_eq_true HE.out.symm
      have XN : Hid (xN (bl s) = runD ((bl s).drop (xAt (bl s)))) := Lib.hid (by unfold xN; rw [if_pos c1])
      rw [← HA.out] at XN
      have A1 : 1 ≤ A ∧ A ≤ 2 ∧ A ≤ s.size := by
        have h0 : 0 < s.size := by
          rcases Nat.lt_or_ge 0 s.size with h | h
          · exact h
          · rw [getD_none (by rw [LB.out]; omega)] at c1; omega
        rw [HA.out]; unfold xAt
        by_cases h1 : 1 < s.size
        · split <;> omega
        · rw [getD_none (by rw [LB.out]; omega), if_neg (by decide)]; omega
      have HA1 := Lib.hid A1
      obtain ⟨a1, a2, a3⟩ := A1
      have a4 : (A : Int) ≤ 2 := by omega
      have C65 := Lib.hid (fun w => rRun s A w HS.out a3)
      rw [← XN.out] at C65
      have nle : xN (bl s) + A ≤ s.size := by
        rw [XN.out]
        have := runD_le ((bl s).drop A)
        rw [List.length_drop, LB.out] at this
        omega
      have HX : Hid (xV (bl s) = dval (((bl s).drop A).take (xN (bl s)))) := Lib.hid (by unfold xV; rw [← HA.out])
      have II : Hid (I = if B = true then -((min FAR4 (xV (bl s)) : Nat) : Int) else ((min FAR4 (xV (bl s)) : Nat) : Int)) := Lib.hid (by
        rw [HI.out, HB.out]; unfold xI; simp only [decide_eq_true_eq])
      have ZZ : Hid (xN (bl s) ≠ 0 → Z = A + xN (bl s)) := Lib.hid (fun h => by rw [HZ.out]; unfold xSz; rw [if_neg h, HA.out])
      obtain ⟨n, hn⟩ : ∃ n, n = xN (bl s) := ⟨_, rfl⟩
      rw [← hn] at C65 nle HX ZZ zero
      have XN2 : Hid (n = runD ((bl s).drop A)) := Lib.hid (by rw [hn]; exact XN.out)
      obtain ⟨v, hv⟩ : ∃ v, v = xV (bl s) := ⟨_, rfl⟩
      rw [← hv] at HX II
      have nle2 : (n : Int) + (A : Int) ≤ (s.size : Int) := by omega
      have HNL := Lib.hid nle
      clear hn hv XN nle HI HZ c1 HE
      go_upto_region 4 with fail
      go_cut [5] (fun u wx => u = .bool B ∧ wx = wc)
      case first =>
        by_cases h1 : 1 < s.size
        · have x1 := bl_getD s 1 h1
          have h1i : (1 : Int) < (s.size : Int) := by omega
          by_cases d1 : (s[1]).toNat = 45
          · have EE : Hid (B = true) := Lib.hid (by rw [HB.out, x1]; exact decide_eq_true d1)
            have d1i : ((s[1]).toNat : Int) = 45 := by omega
            clear d1 x1
            go_wp2_with fail
            go_meet
            exact ⟨by rw [EE.out] <;> rfl, rfl⟩
          · have EE : Hid (B = false) := Lib.hid (by rw [HB.out, x1]; exact decide_eq_false d1)
            have d1i : (((s[1]).toNat : Int) == 45) = false := beq_eq_false_iff_ne.2 (by omega)
            clear d1 x1
            go_wp2_with fail
            go_meet
            exact ⟨by rw [EE.out] <;> rfl, rfl⟩
        · have h1i : ¬ (1 : Int) < (s.size : Int) := by omega
          have EE : Hid (B = false) := Lib.hid (by rw [HB.out, getD_none (by rw [LB.out]; omega)]; rfl)
          clear h1
          go_wp2_with fail
          go_meet
          exact ⟨by rw [EE.out] <;> rfl, rfl⟩
      case rest =>
        obtain ⟨rfl, rfl⟩ := hcut
        go_upto_region 5 with fail
        go_cut [40] (fun u wx => u = .bool C ∧ wx = wc)
        case first =>
          cases B
          · have b0 := of_decide_eq_false HB.out.symm
            by_cases h1 : 1 < s.size
            · have x1 := bl_getD s 1 h1
              have h1i : (1 : Int) < (s.size : Int) := by omega
              by_cases d1 : (s[1]).toNat = 43
              · have EE : Hid (C = true) := Lib.hid (by rw [HC.out, x1]; exact decide_eq_true (.inl d1))
                have d1i : ((s[1]).toNat : Int) = 43 := by omega
                clear d1 x1 b0
                go_wp2_with fail
                go_meet
                exact ⟨by rw [EE.out] <;> rfl, rfl⟩
              · have EE : Hid (C = false) := Lib.hid (by rw [HC.out]; exact decide_eq_false (fun e => e.elim (fun e => d1 (x1.symm.trans e)) b0))
                have d1i : (((s[1]).toNat : Int) == 43) = false := beq_eq_false_iff_ne.2 (by omega)
                clear d1 x1 b0
                go_wp2_with fail
                go_meet
                exact ⟨by rw [EE.out] <;> rfl, rfl⟩
            · have h1i : ¬ (1 : Int) < (s.size : Int) := by omega
              have EE : Hid (C = false) := Lib.hid (by rw [HC.out, getD_none (by rw [LB.out]; omega)]; rfl)
              clear h1 b0
              go_wp2_with fail
              go_meet
              exact ⟨by rw [EE.out] <;> rfl, rfl⟩
          · have EE : Hid (C = true) := Lib.hid (by rw [HC.out]; exact decide_eq_true (.inr (of_decide_eq_true HB.out.symm)))
            go_wp2_with fail
            go_meet
            exact ⟨by rw [EE.out] <;> rfl, rfl⟩
        case rest =>
          obtain ⟨rfl, rfl⟩ := hcut
          go_upto_if 40 with fail
          go_cut [4] (fun a wx => a = .int .i64 (A : Int) ∧ wx = wc)
          case first =>
            cases C
            · have EE : Hid (A = 1) := Lib.hid (by rw [AC.out]; rfl)
              go_wp2_with fail
              go_meet
              exact ⟨by rw [EE.out] <;> rfl, rfl⟩
            · have EE : Hid (A = 2) := Lib.hid (by rw [AC.out]; rfl)
              go_wp2_with fail
              go_meet
              exact ⟨by rw [EE.out] <;> rfl, rfl⟩
          case rest =>
            obtain ⟨rfl, rfl⟩ := hcut
            by_cases hz : n = 0
            · have EZ := Lib.hid (zero.out hz)
              subst hz
              go_wp2_with (go_at_call 65; refine (C65.out _).mono ?_; rintro e w' ⟨rfl, rfl⟩)
              go_ret2
              exact ⟨by rw [EZ.out.1, EZ.out.2]; rfl, rfl⟩
            · have hzi : ¬ (n : Int) = 0 := by omega
              have ZE := Lib.hid (ZZ.out hz)
              clear ZZ zero hz
              go_wp2_with (go_at_call 65; refine (C65.out _).mono ?_; rintro e w' ⟨rfl, rfl⟩)
              go_loopw [7, 8] (fun e i wx => ∃ j : Nat, i = .int .i64 j ∧ Hid (A ≤ j ∧ j ≤ A + n) ∧ e = .int .i64 ((min FAR4 (dval (((bl s).drop A).take (j - A))) : Nat) : Int) ∧ wx = wc) (fun _ i _ => A + n - (intOf i).toNat)
              case atStart => exact ⟨A, rfl, Lib.hid ⟨Nat.le_refl _, Nat.le_add_right _ _⟩, by rw [Nat.sub_self, List.take_zero]; rfl, rfl⟩
              case round =>
                obtain ⟨j, rfl, hJ, rfl, rfl⟩ := hrel
                by_cases hlt : j < A + n
                · have hji : (j : Int) < (A : Int) + (n : Int) := by omega
                  have hjs : j < s.size := by have := HNL.out; omega
                  have hjs2 : (j : Int) < (s.size : Int) := by omega
                  have hx := bl_get s j hjs
                  have hx2 : ((bl s).drop A)[j - A]? = some (s[j]).toNat := by rw [List.getElem?_drop, show A + (j - A) = j by have := hJ.out.1; omega]; exact hx
                  have hx3 : (((bl s).drop A).take (runD ((bl s).drop A)))[j - A]? = some (s[j]).toNat := by
                    rw [← XN2.out, List.getElem?_take, if_pos (by have := hJ.out.1; omega)]; exact hx2
                  have hdg := runD_dg ((bl s).drop A) _ (List.mem_of_getElem? hx3)
                  have E := dval_take hx2
                  obtain ⟨x, hxe⟩ : ∃ x, x = (s[j]).toNat := ⟨_, rfl⟩
                  rw [← hxe] at hdg E
                  obtain ⟨d, hde⟩ : ∃ d, d = x - 48 := ⟨_, rfl⟩
                  rw [← hde] at E
                  have d1 : (((s[j]).toNat : Nat) : Int) - 48 = (d : Int) := by omega
                  have d2 : (d : Int) ≤ 9 := by omega
                  have d3 : (48 : Int) ≤ (((s[j]).toNat : Nat) : Int) := by omega
                  have d4 : IntKind.u8.wrap (d : Int) = (d : Int) := by
                    have e : IntKind.u8.wrap (d : Int) = (d : Int) % 256 := rfl
                    rw [e]; omega
                  obtain ⟨u, hu⟩ : ∃ u, u = dval (((bl s).drop A).take (j - A)) := ⟨_, rfl⟩
                  rw [← hu] at E ⊢
                  have mn := cap_int (cap := FAR4) (by decide) u d
                  have mm : min FAR4 u ≤ 4398046511104 := Nat.min_le_left _ _
                  have E2 : Hid (dval (((bl s).drop A).take (j + 1 - A)) = u * 10 + d) := Lib.hid (by rw [show j + 1 - A = j - A + 1 by have := hJ.out.1; omega]; exact E)
                  generalize hm1 : min FAR4 u = m1 at *
                  generalize hm2 : min FAR4 (u * 10 + d) = m2 at *
                  have HM2 := Lib.hid hm2
                  have mm1 : (m1 : Int) ≤ 4398046511104 := by omega
                  have mn2 : min (4398046511104 : Int) (10 * (m1 : Int) + (d : Int)) = (m2 : Int) := mn
                  have HLT := Lib.hid hlt
                  clear hx hx2 hx3 hdg E hxe hde hu mn mm hm1 hm2 hlt
                  go_wp2_with fail
                  go_roundw
                  case rel => exact ⟨j + 1, by go_num, Lib.hid ⟨by have := hJ.out.1; omega, HLT.out⟩, by rw [E2.out, HM2.out], trivial⟩
                  case measure => have := HLT.out; simp [intOf]; omega
                · have hji : ¬ (j : Int) < (A : Int) + (n : Int) := by omega
                  have hjn : j - A = n := by have := hJ.out; omega
                  have VV : dval (((bl s).drop A).take (j - A)) = v := by rw [hjn, HX.out]
                  rw [VV]
                  have mm : min FAR4 v ≤ 4398046511104 := Nat.min_le_left _ _
                  obtain ⟨m, hm⟩ : ∃ m, m = min FAR4 v := ⟨_, rfl⟩
                  rw [← hm] at II mm ⊢
                  have m1 : (m : Int) ≤ 4398046511104 := by omega
                  clear hlt hjn VV hm mm
                  cases B
                  · have IE := II.out
                    simp only [Bool.false_eq_true, if_false] at IE
                    replace IE := Lib.hid IE
                    clear II
                    go_wp2_with fail
                    go_ret2
                    exact ⟨by rw [IE.out, ZE.out]; push_cast; rfl, rfl⟩
                  · have IE := II.out
                    simp only [if_true] at IE
                    replace IE := Lib.hid IE
                    clear II
                    go_wp2_with fail
                    go_ret2
                    exact ⟨by rw [IE.out, ZE.out]; push_cast; rfl, rfl⟩
end Go.Proofs.YtjkifbkehochoaaGreatDoor
