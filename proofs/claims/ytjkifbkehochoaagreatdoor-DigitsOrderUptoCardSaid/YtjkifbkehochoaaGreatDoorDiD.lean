/- galleyref03.Figure. -/
import Derived.Test.YtjkifbkehochoaaGreatDoorMgDkB
namespace Go.Proofs.YtjkifbkehochoaaGreatDoor
open Go.RowKit Fl

theorem results_tmp4 {fn : Func} {t u v x : Tmp} (h : fn.results = #[.tmp t, .tmp u, .tmp v, .tmp x]) (tmps : Array Value) (P : Program) (w : World) :
    (results fn tmps).run P w = .ok (.tuple #[tmps.getD t undef, tmps.getD u undef, tmps.getD v undef, tmps.getD x undef]) w := by
  simp [results, h, go_sem]
theorem bl_slice (s : ByteArray) (a b : Nat) (h : a ≤ b) : bl (s.extract a b) = ((bl s).drop a).take (b - a) := by
  rw [bl_extract, List.drop_take]
theorem bl_rest (s : ByteArray) (a : Nat) : bl (s.extract a s.size) = (bl s).drop a := by
  rw [bl_extract, ← bl_len s, List.take_length]
theorem size_tail (s : ByteArray) (a : Nat) : (s.extract a s.size).size ≤ s.size := by
  rw [← bl_len, bl_rest, List.length_drop, bl_len]; omega
set_option maxRecDepth 100000 in
set_option maxHeartbeats 2000000 in
theorem rFigure (s : ByteArray) (w : World) (hs : s.size ≤ 1000000000) :
    Calls Tryz.prog 32 #[.string s] w fun e w' => ((fDg (bl s) = [] ∧ e = .returned (.tuple #[.bool false, .string ⟨#[]⟩, .int .i64 0, .int .i64 0])) ∨
      (fDg (bl s) ≠ [] ∧ ∃ z : ByteArray, bl z = fDg (bl s) ∧ e = .returned (.tuple #[.bool (decide ((bl s).getD 0 0 = 45)), .string z, .int .i64 (fWh (bl s) + xI FAR4 ((bl s).drop (fTo (bl s)))), .int .i64 ((fTo (bl s) + xSz ((bl s).drop (fTo (bl s))) : Nat))]))) ∧ w = w' := by
  have s1 : (s.size : Int) ≤ 1000000000 := by omega
  have LB := Lib.hid (bl_len s)
  obtain ⟨l, hl⟩ : ∃ l, l = bl s := ⟨_, rfl⟩
  obtain ⟨B, hB⟩ : ∃ B, B = decide (l.getD 0 0 = 45) := ⟨_, rfl⟩
  obtain ⟨C, hC⟩ : ∃ C, C = decide (l.getD 0 0 = 43 ∨ l.getD 0 0 = 45) := ⟨_, rfl⟩
  obtain ⟨A, hA⟩ : ∃ A, A = fAt l := ⟨_, rfl⟩
  obtain ⟨W, hW⟩ : ∃ W, W = fWh l := ⟨_, rfl⟩
  obtain ⟨F, hF⟩ : ∃ F, F = fFr l := ⟨_, rfl⟩
  obtain ⟨T, hT⟩ : ∃ T, T = fTo l := ⟨_, rfl⟩
  obtain ⟨M, hM⟩ : ∃ M, M = A + W := ⟨_, rfl⟩
  obtain ⟨D, hD⟩ : ∃ D, D = decide (l.getD M 0 = 46) := ⟨_, rfl⟩
  obtain ⟨I, hI⟩ : ∃ I, I = xI FAR4 (l.drop T) := ⟨_, rfl⟩
  obtain ⟨X, hX⟩ : ∃ X, X = xSz (l.drop T) := ⟨_, rfl⟩
  rw [← hl, ← hB, ← hW, ← hT, ← hI, ← hX]
  have AC : Hid (A = if C = true then 1 else 0) := Lib.hid (by rw [hA, hC]; unfold fAt; simp only [decide_eq_true_eq])
  have ll : l.length = s.size := by rw [hl, bl_len]
  have n1 : A ≤ s.size := by rw [hA, ← ll]; exact fAt_le l
  have n2 : M ≤ s.size := by rw [hM, hA, hW, ← ll]; exact fWh_le l
  have n3 : T ≤ s.size := by rw [hT, ← ll]; exact fTo_le l
  have n4 : D = true → M + 1 + F ≤ s.size := fun h => by
    rw [hM, hA, hW, hF, ← ll]
    refine fFr_le ?_
    rw [← hA, ← hW, ← hM]
    exact of_decide_eq_true (by rw [← hD]; exact h)
  have HFd : Hid (D = true → F = runD (l.drop (M + 1))) := Lib.hid (fun h => by
    rw [hF]; unfold fFr
    rw [← hA, ← hW, ← hM, if_pos (of_decide_eq_true (by rw [← hD]; exact h))])
  have HFz : Hid (D = false → F = 0) := Lib.hid (fun h => by
    rw [hF]; refine fFr_zero ?_
    rw [← hA, ← hW, ← hM]
    exact of_decide_eq_false (by rw [← hD]; exact h))
  have HTt : Hid (D = true → W + F ≠ 0 → T = M + 1 + F) := Lib.hid (fun h h2 => by
    rw [hT]; unfold fTo
    rw [← hA, ← hW, ← hF, ← hM, if_pos ⟨of_decide_eq_true (by rw [← hD]; exact h), h2⟩])
  have HTf : Hid (D = false ∨ W + F = 0 → T = M) := Lib.hid (fun h => by
    rw [hT]; unfold fTo
    rw [← hA, ← hW, ← hF, ← hM, if_neg (fun e => h.elim (fun h => of_decide_eq_false (by rw [← hD]; exact h) e.1) (fun h => e.2 h))])
  have HDG : Hid (fDg l = (l.drop A).take W ++ (l.drop (M + 1)).take F) := Lib.hid (by unfold fDg; rw [← hA, ← hW, ← hF, ← hM])
  have HDL : Hid ((fDg l).length = W + F) := Lib.hid (by rw [hW, hF]; exact fDg_len l)
  have HWd : Hid (W = runD (l.drop A)) := Lib.hid (by rw [hW, hA]; rfl)
  have C65 := Lib.hid (fun w => rRun s A w hs n1)
  rw [← hl, ← HWd.out] at C65
  have C65b : Hid (D = true → ∀ w, Calls Tryz.prog 65 #[.string s, .int .i64 ((M + 1 : Nat) : Int)] w fun e w' => e = .returned (.int .i64 (F : Nat)) ∧ w = w') := Lib.hid (fun h w => by
    have := rRun s (M + 1) w hs (by have := n4 h; omega)
    rw [← hl, ← HFd.out h] at this
    exact this)
  have C66 := Lib.hid (fun w => rExp (s.extract T s.size) w (Nat.le_trans (size_tail s T) hs))
  rw [bl_rest, ← hl, ← hI, ← hX] at C66
  have IB : -(4398046511104 : Int) ≤ I ∧ I ≤ 4398046511104 := by rw [hI]; exact xI_le _
  obtain ⟨I1, I2⟩ := IB
  have XB : T + X ≤ s.size := by
    rw [hX]; unfold xSz
    split
    · omega
    · rename_i hz
      unfold xN at hz ⊢
      split at hz
      · rename_i hc
        rw [if_pos hc]
        have h3 := runD_le ((l.drop T).drop (xAt (l.drop T)))
        rw [List.length_drop, List.length_drop, ll] at h3
        omega
      · exact absurd rfl hz
  have HB := Lib.hid hB
  have HC := Lib.hid hC
  have HD := Lib.hid hD
  have HL := Lib.hid hl
  have HM := Lib.hid hM
  have LL := Lib.hid ll
  have b0 : Hid (∀ h : 0 < s.size, l.getD 0 0 = (s[0]).toNat) := Lib.hid (fun h => by rw [hl]; exact bl_getD s 0 h)
  have bM : Hid (∀ h : M < s.size, l.getD M 0 = (s[M]).toNat) := Lib.hid (fun h => by rw [hl]; exact bl_getD s M h)
  have a1 : (A : Int) ≤ (s.size : Int) := by omega
  have a2 : (M : Int) ≤ (s.size : Int) := by omega
  have a3 : (T : Int) ≤ (s.size : Int) := by omega
  have a4 : (A : Int) + (W : Int) = (M : Int) := by omega
  have a5 : (T : Int) + (X : Int) ≤ (s.size : Int) := by omega
  have a6 : (A : Int) ≤ (M : Int) := by omega
  have a7 : (W : Int) ≤ 1000000000 := by omega
  have N4 := Lib.hid n4
  have zl : Hid (bl (s.extract A M) = (l.drop A).take W) := Lib.hid (by rw [bl_slice s A M (by omega), ← hl, show M - A = W by omega])
  clear hl hB hC hA hW hF hT hM hD hI hX ll n1 n2 n3 n4 XB hs
  go_enter Tryz.func32, Tryz.ntmps32
  go_upto_region 2 with fail
  go_cut [7] (fun u wx => u = .bool B ∧ wx = w)
  case first =>
    by_cases h1 : 0 < s.size
    · have x1 := b0.out h1
      have h1i : (0 : Int) < (s.size : Int) := by omega
      by_cases d1 : (s[0]).toNat = 45
      · have EE : Hid (B = true) := Lib.hid (by rw [HB.out, x1]; exact decide_eq_true d1)
        have d1i : ((s[0]).toNat : Int) = 45 := by omega
        clear d1 x1
        go_wp2_with fail
        go_meet
        exact ⟨by rw [EE.out] <;> rfl, rfl⟩
      · have EE : Hid (B = false) := Lib.hid (by rw [HB.out, x1]; exact decide_eq_false d1)
        have d1i : (((s[0]).toNat : Int) == 45) = false := beq_eq_false_iff_ne.2 (by omega)
        clear d1 x1
        go_wp2_with fail
        go_meet
        exact ⟨by rw [EE.out] <;> rfl, rfl⟩
    · have h1i : ¬ (0 : Int) < (s.size : Int) := by omega
      have EE : Hid (B = false) := Lib.hid (by rw [HB.out, getD_none (by rw [LL.out]; omega)]; rfl)
      clear h1
      go_wp2_with fail
      go_meet
      exact ⟨by rw [EE.out] <;> rfl, rfl⟩
  case rest =>
    obtain ⟨rfl, rfl⟩ := hcut
    go_upto_region 3 with fail
    go_cut [32] (fun u wx => u = .bool C ∧ wx = wc)
    case first =>
      cases B
      · have b0' := of_decide_eq_false HB.out.symm
        by_cases h1 : 0 < s.size
        · have x1 := b0.out h1
          have h1i : (0 : Int) < (s.size : Int) := by omega
          by_cases d1 : (s[0]).toNat = 43
          · have EE : Hid (C = true) := Lib.hid (by rw [HC.out, x1]; exact decide_eq_true (.inl d1))
            have d1i : ((s[0]).toNat : Int) = 43 := by omega
            clear d1 x1 b0'
            go_wp2_with fail
            go_meet
            exact ⟨by rw [EE.out] <;> rfl, rfl⟩
          · have EE : Hid (C = false) := Lib.hid (by rw [HC.out]; exact decide_eq_false (fun e => e.elim (fun e => d1 (x1.symm.trans e)) b0'))
            have d1i : (((s[0]).toNat : Int) == 43) = false := beq_eq_false_iff_ne.2 (by omega)
            clear d1 x1 b0'
            go_wp2_with fail
            go_meet
            exact ⟨by rw [EE.out] <;> rfl, rfl⟩
        · have h1i : ¬ (0 : Int) < (s.size : Int) := by omega
          have EE : Hid (C = false) := Lib.hid (by rw [HC.out, getD_none (by rw [LL.out]; omega)]; rfl)
          clear h1 b0'
          go_wp2_with fail
          go_meet
          exact ⟨by rw [EE.out] <;> rfl, rfl⟩
      · have EE : Hid (C = true) := Lib.hid (by rw [HC.out]; exact decide_eq_true (.inr (of_decide_eq_true HB.out.symm)))
        go_wp2_with fail
        go_meet
        exact ⟨by rw [EE.out] <;> rfl, rfl⟩
    case rest =>
      obtain ⟨rfl, rfl⟩ := hcut
      go_upto_if 32 with fail
      go_cut [6] (fun a wx => a = .int .i64 (A : Int) ∧ wx = wc)
      case first =>
        cases C
        · have EE : Hid (A = 0) := Lib.hid (by rw [AC.out]; rfl)
          go_wp2_with fail
          go_meet
          exact ⟨by rw [EE.out] <;> rfl, rfl⟩
        · have EE : Hid (A = 1) := Lib.hid (by rw [AC.out]; rfl)
          go_wp2_with fail
          go_meet
          exact ⟨by rw [EE.out] <;> rfl, rfl⟩
      case rest =>
        obtain ⟨rfl, rfl⟩ := hcut
        go_upto_region 9 with (go_at_call 65; refine (C65.out _).mono ?_; rintro e w' ⟨rfl, rfl⟩)
        go_cut [55] (fun u wx => u = .bool D ∧ wx = wc)
        case first =>
          by_cases h1 : M < s.size
          · have x1 := bM.out h1
            have h1i : (M : Int) < (s.size : Int) := by omega
            by_cases d1 : (s[M]).toNat = 46
            · have EE : Hid (D = true) := Lib.hid (by rw [HD.out, x1]; exact decide_eq_true d1)
              have d1i : ((s[M]).toNat : Int) = 46 := by omega
              clear d1 x1
              go_wp2_with fail
              go_meet
              exact ⟨by rw [EE.out] <;> rfl, rfl⟩
            · have EE : Hid (D = false) := Lib.hid (by rw [HD.out, x1]; exact decide_eq_false d1)
              have d1i : (((s[M]).toNat : Int) == 46) = false := beq_eq_false_iff_ne.2 (by omega)
              clear d1 x1
              go_wp2_with fail
              go_meet
              exact ⟨by rw [EE.out] <;> rfl, rfl⟩
          · have h1i : ¬ (M : Int) < (s.size : Int) := by omega
            have EE : Hid (D = false) := Lib.hid (by rw [HD.out, getD_none (by rw [LL.out]; omega)]; rfl)
            clear h1
            go_wp2_with fail
            go_meet
            exact ⟨by rw [EE.out] <;> rfl, rfl⟩
        case rest =>
          obtain ⟨rfl, rfl⟩ := hcut
          go_upto_if 55 with fail
          go_cut [6, 9] (fun a d wx => ∃ z : ByteArray, d = .string z ∧ Hid (bl z = fDg l) ∧ a = .int .i64 (T : Int) ∧ wx = wc)
          case first =>
            cases D
            · have E1 : Hid (F = 0) := Lib.hid (HFz.out rfl)
              have E2 : Hid (T = M) := Lib.hid (HTf.out (.inl rfl))
              have E3 : Hid (bl (s.extract A M) = fDg l) := Lib.hid (by rw [zl.out, HDG.out, E1.out, List.take_zero, List.append_nil])
              go_wp2_with fail
              go_meet
              exact ⟨_, rfl, E3, by rw [E2.out], rfl⟩
            · have CC := Lib.hid (C65b.out rfl)
              have f1 : (M : Int) + 1 + (F : Int) ≤ (s.size : Int) := by have := N4.out rfl; omega
              have f0 : (M : Int) + 1 = ((M + 1 : Nat) : Int) := by omega
              obtain ⟨M1, hM1⟩ : ∃ M1, M1 = M + 1 := ⟨_, rfl⟩
              rw [← hM1] at CC f0
              obtain ⟨M2, hM2⟩ : ∃ M2, M2 = M1 + F := ⟨_, rfl⟩
              have f2 : (M1 : Int) + (F : Int) = (M2 : Int) := by omega
              have f3 : (M1 : Int) ≤ (M2 : Int) := by omega
              have f4 : (M2 : Int) ≤ (s.size : Int) := by omega
              have zl2 : Hid (bl (s.extract A M ++ s.extract M1 M2) = fDg l) := Lib.hid (by
                rw [bl_append, zl.out, HDG.out, bl_slice s M1 M2 (by omega), ← HL.out, show M2 - M1 = F by omega, hM1])
              by_cases hz : W + F = 0
              · have E2 : Hid (T = M) := Lib.hid (HTf.out (.inr hz))
                have E3 : Hid (bl (s.extract A M) = fDg l) := Lib.hid (by rw [zl.out, HDG.out, show F = 0 by omega, List.take_zero, List.append_nil])
                have g1 : ¬ (0 : Int) < (W : Int) + (F : Int) := by omega
                clear hz f1 hM1 hM2
                go_wp2_with (go_at_call 65; refine (CC.out _).mono ?_; rintro e w' ⟨rfl, rfl⟩)
                go_meet
                exact ⟨_, rfl, E3, by rw [E2.out], rfl⟩
              · have E2 : Hid ((M2 : Int) = (T : Int)) := Lib.hid (by rw [HTt.out rfl hz]; omega)
                have g1 : (0 : Int) < (W : Int) + (F : Int) := by omega
                clear hz f1 hM1 hM2
                go_wp2_with (go_at_call 65; refine (CC.out _).mono ?_; rintro e w' ⟨rfl, rfl⟩)
                go_meet
                exact ⟨_, rfl, zl2, by rw [E2.out], rfl⟩
          case rest =>
            obtain ⟨z, rfl, hz, rfl, rfl⟩ := hcut
            have zs : z.size = W + F := by rw [← bl_len, hz.out, HDL.out]
            by_cases h0 : W + F = 0
            · have E : Hid (fDg l = []) := Lib.hid (List.eq_nil_of_length_eq_zero (by rw [HDL.out]; exact h0))
              have z0 : (z.size : Int) = 0 := by omega
              clear zs h0
              go_wp2_with fail
              ((try simp only [Exit.inBlock, Exit.then]); refine bodyPost_ret (results_tmp4 rfl _ _ _) rfl ?_)
              exact ⟨.inl ⟨E.out, rfl⟩, rfl⟩
            · have E : Hid (fDg l ≠ []) := Lib.hid (fun e => h0 (by rw [← HDL.out, e]; rfl))
              have z0 : ¬ (z.size : Int) = 0 := by omega
              clear zs h0
              go_wp2_with (go_at_call 66; refine (C66.out _).mono ?_; rintro e w' ⟨rfl, rfl⟩)
              ((try simp only [Exit.inBlock, Exit.then]); refine bodyPost_ret (results_tmp4 rfl _ _ _) rfl ?_)
              exact ⟨.inr ⟨E.out, z, hz.out, rfl⟩, rfl⟩
end Go.Proofs.YtjkifbkehochoaaGreatDoor
