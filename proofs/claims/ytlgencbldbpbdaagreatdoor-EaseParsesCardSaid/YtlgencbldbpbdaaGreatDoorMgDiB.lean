/- galleyref03.run. galleyref03.exponent. galleyref03.Figure. -/
import Derived.Test.YtlgencbldbpbdaaGreatDoorMgDhL
import Derived.Deep.DeepCutAuto
namespace Go.Proofs.YtlgencbldbpbdaaGreatDoor
open Go.RowKit Fl
set_option maxRecDepth 100000 in
set_option maxHeartbeats 1000000 in
theorem rRun (s : ByteArray) (a : Nat) (w : World) (hs : s.size ≤ 1000000000) (ha : a ≤ s.size) :
  Calls Tryz.prog 273 #[.string s, .int .i64 a] w fun e w' => e = .returned (.int .i64 (runD ((bl s).drop a) : Nat)) ∧ w = w' := by
 have HS := Lib.hid (And.intro hs ha)
 have s1 : (s.size : Int) ≤ 1000000000 := by omega
 obtain ⟨R, hR⟩ : ∃ R, R = runD ((bl s).drop a) := ⟨_, rfl⟩
 rw [← hR]
 have HR := Lib.hid hR
 have LB := Lib.hid (bl_len s)
 have a1 : (a : Int) ≤ 1000000000 := by omega
 clear hs ha hR
 go_enter Tryz.func273, Tryz.ntmps273
 go_wp2_with fail
 go_loopw [5] (fun i wx => ∃ k : Nat, i = .int .i64 k ∧ Hid (a + k ≤ s.size ∧ R = k + runD ((bl s).drop (a + k))) ∧ wx = w) (fun i _ => s.size - (intOf i).toNat)
 case atStart => exact ⟨0, rfl, Lib.hid ⟨HS.out.2, by rw [HR.out, Nat.add_zero, Nat.zero_add]⟩, rfl⟩
 case round =>
  obtain ⟨k, rfl, hI, rfl⟩ := hrel
  obtain ⟨m, hm⟩ : ∃ m, m = a + k := ⟨_, rfl⟩
  have am : (a : Int) + (k : Int) = (m : Int) := by omega
  have k1 : (k : Int) ≤ 1000000000 := by have := hI.out; have := HS.out; omega
  rw [← hm] at hI
  have HM := Lib.hid hm
  clear hm
  by_cases hlt : m < s.size
  ·have hki : (m : Int) < (s.size : Int) := by omega
   have hx := bl_get s m hlt
   have hst := runD_step hx
   by_cases hd : 48 ≤ (s[m]).toNat ∧ (s[m]).toNat ≤ 57
   ·rw [if_pos hd] at hst
    have d1 : (48 : Int) ≤ ((s[m]).toNat : Int) := by omega
    have d2 : ((s[m]).toNat : Int) ≤ 57 := by omega
    have E : Hid (a + (k + 1) ≤ s.size ∧ R = k + 1 + runD ((bl s).drop (a + (k + 1)))) := Lib.hid ⟨by have := HM.out; omega, by rw [show a + (k + 1) = m + 1 by have := HM.out; omega]; have := hI.out.2; omega⟩
    clear hx hst hd
    go_wp2_with fail
    go_roundw
    case rel => exact ⟨k + 1, by go_num, E, trivial⟩
    case measure => have := HM.out; simp [intOf]; omega
   ·rw [if_neg hd] at hst
    have E : Hid ((k : Int) = (R : Int)) := Lib.hid (by have := hI.out; omega)
    clear hx hst
    by_cases d1 : (48 : Int) ≤ ((s[m]).toNat : Int)
    ·have d2 : ¬ ((s[m]).toNat : Int) ≤ 57 := by omega
     clear hd
     go_wp2_with fail
     go_ret
     exact ⟨by rw [← E.out]; rfl, rfl⟩
    ·clear hd
     go_wp2_with fail
     go_ret
     exact ⟨by rw [← E.out]; rfl, rfl⟩
  ·have hki : ¬ (m : Int) < (s.size : Int) := by omega
   have E : Hid ((k : Int) = (R : Int)) := Lib.hid (by
    have h1 := hI.out
    have : (bl s).drop m = [] := List.drop_eq_nil_of_le (by rw [LB.out]; omega)
    rw [this] at h1
    have : runD [] = 0 := rfl
    omega)
   clear hlt
   go_wp2_with fail
   go_ret
   exact ⟨by rw [← E.out]; rfl, rfl⟩
end Go.Proofs.YtlgencbldbpbdaaGreatDoor
namespace Go.Proofs.YtlgencbldbpbdaaGreatDoor
open Go.RowKit Fl
theorem xI_zero {cap : Nat} {r : List Nat} (h : xN r = 0) : xI cap r = 0 := by
 have : xV r = 0 := by unfold xV; rw [h, List.take_zero]; rfl
 unfold xI
 rw [this, Nat.min_zero]
 split <;> rfl
theorem getD_none {l : List Nat} {k : Nat} (h : l.length ≤ k) : l.getD k 0 = 0 := by rw [List.getD, List.getElem?_eq_none h]; rfl
theorem cap_int {cap : Nat} (hc : 0 < cap) (v d : Nat) : min (cap : Int) (10 * ((min cap v : Nat) : Int) + (d : Int)) = ((min cap (v * 10 + d) : Nat) : Int) := by
 have := cap_step (x := d) (v := v) hc
 omega
set_option maxRecDepth 100000 in
set_option maxHeartbeats 2000000 in
theorem rExp (s : ByteArray) (w : World) (hs : s.size ≤ 1000000000) :
  Calls Tryz.prog 274 #[.string s] w fun e w' => e = .returned (.tuple #[.int .i64 (xI FAR4 (bl s)), .int .i64 (xSz (bl s) : Nat)]) ∧ w = w' := by
 have s1 : (s.size : Int) ≤ 1000000000 := by omega
 have LB := Lib.hid (bl_len s)
 obtain ⟨I, hI⟩ : ∃ I, I = xI FAR4 (bl s) := ⟨_, rfl⟩
 obtain ⟨Z, hZ⟩ : ∃ Z, Z = xSz (bl s) := ⟨_, rfl⟩
 rw [← hI, ← hZ]
 have HI := Lib.hid hI
 have HZ := Lib.hid hZ
 have zero : Hid (xN (bl s) = 0 → I = 0 ∧ Z = 0) := Lib.hid (fun h => ⟨by rw [HI.out, xI_zero h], by rw [HZ.out]; unfold xSz; rw [if_pos h]⟩)
 obtain ⟨E, hE⟩ : ∃ E, E = decide ((bl s).getD 0 0 = 101 ∨ (bl s).getD 0 0 = 69) := ⟨_, rfl⟩
 have HE := Lib.hid hE
 obtain ⟨A, hA⟩ : ∃ A, A = xAt (bl s) := ⟨_, rfl⟩
 have HA := Lib.hid hA
 obtain ⟨B, hB⟩ : ∃ B, B = decide ((bl s).getD 1 0 = 45) := ⟨_, rfl⟩
 have HB := Lib.hid hB
 obtain ⟨C, hC⟩ : ∃ C, C = decide ((bl s).getD 1 0 = 43 ∨ (bl s).getD 1 0 = 45) := ⟨_, rfl⟩
 have HC := Lib.hid hC
 have AC : Hid (A = if C = true then 2 else 1) := Lib.hid (by rw [HA.out, HC.out]; unfold xAt; simp only [decide_eq_true_eq])
 have HS := Lib.hid hs
 clear hI hZ hE hA hB hC hs
 go_enter Tryz.func274, Tryz.ntmps274
 go_upto_region 1 with fail
 go_cut [21] (fun u wx => u = .bool (!E) ∧ wx = w)
 case first =>
  by_cases h0 : 0 < s.size
  ·have x0 := bl_getD s 0 h0
   have c6 : ((s.size : Int) == 0) = false := beq_eq_false_iff_ne.2 (by omega)
   by_cases c1 : (s[0]).toNat = 101
   ·have EE : Hid (E = true) := Lib.hid (by rw [HE.out, x0]; exact decide_eq_true (.inl c1))
    have c1i : ((s[0]).toNat : Int) = 101 := by omega
    clear c1 x0
    go_wp2_with fail
    go_meet
    exact ⟨by rw [EE.out] <;> rfl, rfl⟩
   ·have c1i : (((s[0]).toNat : Int) != 101) = true := bne_iff_ne.2 (by omega)
    by_cases c2 : (s[0]).toNat = 69
    ·have EE : Hid (E = true) := Lib.hid (by rw [HE.out, x0]; exact decide_eq_true (.inr c2))
     have c2i : ((s[0]).toNat : Int) = 69 := by omega
     clear c1 c1i x0 c2
     go_wp2_with fail
     go_meet
     exact ⟨by rw [EE.out] <;> rfl, rfl⟩
    ·have EE : Hid (E = false) := Lib.hid (by rw [HE.out, x0]; exact decide_eq_false (fun e => e.elim c1 c2))
     have c2i : (((s[0]).toNat : Int) != 69) = true := bne_iff_ne.2 (by omega)
     clear c1 c2 x0
     go_wp2_with fail
     go_meet
     exact ⟨by rw [EE.out] <;> rfl, rfl⟩
  ·have c6 : ((s.size : Int) == 0) = true := beq_iff_eq.2 (by omega)
   have EE : Hid (E = false) := Lib.hid (by rw [HE.out, getD_none (by rw [LB.out]; omega)]; rfl)
   clear h0
   go_wp2_with fail
   go_meet
   exact ⟨by rw [EE.out] <;> rfl, rfl⟩
 case rest =>
  obtain ⟨rfl, rfl⟩ := hcut
  cases E
  ·have EZ := Lib.hid (zero.out (by unfold xN; rw [if_neg (of_decide_eq_false HE.out.symm)]))
   clear zero
   go_wp2_with fail
   go_ret2
   exact ⟨by rw [EZ.out.1, EZ.out.2]; rfl, rfl⟩
  ·have c1 := of_decide_eq_true HE.out.symm
   have XN : Hid (xN (bl s) = runD ((bl s).drop (xAt (bl s)))) := Lib.hid (by unfold xN; rw [if_pos c1])
   rw [← HA.out] at XN
   have A1 : 1 ≤ A ∧ A ≤ 2 ∧ A ≤ s.size := by
    have h0 : 0 < s.size := by
     rcases Nat.lt_or_ge 0 s.size with h | h
     ·exact h
     ·rw [getD_none (by rw [LB.out]; omega)] at c1; omega
    rw [HA.out]; unfold xAt
    by_cases h1 : 1 < s.size
    ·split <;> omega
    ·rw [getD_none (by rw [LB.out]; omega), if_neg (by decide)]; omega
   have HA1 := Lib.hid A1
   obtain ⟨a1, a2, a3⟩ := A1
   have a4 : (A : Int) ≤ 2 := by omega
   have C65 := Lib.hid (fun w => rRun s A w HS.out a3)
   rw [← XN.out] at C65
   have nle : xN (bl s) + A ≤ s.size := by
    rw [XN.out]
    have := runD_le ((bl s).drop A)
    rw [List.length_drop, LB.out] at this
    omega
   have HX : Hid (xV (bl s) = dval (((bl s).drop A).take (xN (bl s)))) := Lib.hid (by unfold xV; rw [← HA.out])
   have II : Hid (I = if B = true then -((min FAR4 (xV (bl s)) : Nat) : Int) else ((min FAR4 (xV (bl s)) : Nat) : Int)) := Lib.hid (by
    rw [HI.out, HB.out]; unfold xI; simp only [decide_eq_true_eq])
   have ZZ : Hid (xN (bl s) ≠ 0 → Z = A + xN (bl s)) := Lib.hid (fun h => by rw [HZ.out]; unfold xSz; rw [if_neg h, HA.out])
   obtain ⟨n, hn⟩ : ∃ n, n = xN (bl s) := ⟨_, rfl⟩
   rw [← hn] at C65 nle HX ZZ zero
   have XN2 : Hid (n = runD ((bl s).drop A)) := Lib.hid (by rw [hn]; exact XN.out)
   obtain ⟨v, hv⟩ : ∃ v, v = xV (bl s) := ⟨_, rfl⟩
   rw [← hv] at HX II
   have nle2 : (n : Int) + (A : Int) ≤ (s.size : Int) := by omega
   have HNL := Lib.hid nle
   clear hn hv XN nle HI HZ c1 HE
   go_upto_region 4 with fail
   go_cut [5] (fun u wx => u = .bool B ∧ wx = wc)
   case first =>
    by_cases h1 : 1 < s.size
    ·have x1 := bl_getD s 1 h1
     have h1i : (1 : Int) < (s.size : Int) := by omega
     by_cases d1 : (s[1]).toNat = 45
     ·have EE : Hid (B = true) := Lib.hid (by rw [HB.out, x1]; exact decide_eq_true d1)
      have d1i : ((s[1]).toNat : Int) = 45 := by omega
      clear d1 x1
      go_wp2_with fail
      go_meet
      exact ⟨by rw [EE.out] <;> rfl, rfl⟩
     ·have EE : Hid (B = false) := Lib.hid (by rw [HB.out, x1]; exact decide_eq_false d1)
      have d1i : (((s[1]).toNat : Int) == 45) = false := beq_eq_false_iff_ne.2 (by omega)
      clear d1 x1
      go_wp2_with fail
      go_meet
      exact ⟨by rw [EE.out] <;> rfl, rfl⟩
    ·have h1i : ¬ (1 : Int) < (s.size : Int) := by omega
     have EE : Hid (B = false) := Lib.hid (by rw [HB.out, getD_none (by rw [LB.out]; omega)]; rfl)
     clear h1
     go_wp2_with fail
     go_meet
     exact ⟨by rw [EE.out] <;> rfl, rfl⟩
   case rest =>
    obtain ⟨rfl, rfl⟩ := hcut
    go_upto_region 5 with fail
    go_cut [40] (fun u wx => u = .bool C ∧ wx = wc)
    case first =>
     cases B
     ·have b0 := of_decide_eq_false HB.out.symm
      by_cases h1 : 1 < s.size
      ·have x1 := bl_getD s 1 h1
       have h1i : (1 : Int) < (s.size : Int) := by omega
       by_cases d1 : (s[1]).toNat = 43
       ·have EE : Hid (C = true) := Lib.hid (by rw [HC.out, x1]; exact decide_eq_true (.inl d1))
        have d1i : ((s[1]).toNat : Int) = 43 := by omega
        clear d1 x1 b0
        go_wp2_with fail
        go_meet
        exact ⟨by rw [EE.out] <;> rfl, rfl⟩
       ·have EE : Hid (C = false) := Lib.hid (by rw [HC.out]; exact decide_eq_false (fun e => e.elim (fun e => d1 (x1.symm.trans e)) b0))
        have d1i : (((s[1]).toNat : Int) == 43) = false := beq_eq_false_iff_ne.2 (by omega)
        clear d1 x1 b0
        go_wp2_with fail
        go_meet
        exact ⟨by rw [EE.out] <;> rfl, rfl⟩
      ·have h1i : ¬ (1 : Int) < (s.size : Int) := by omega
       have EE : Hid (C = false) := Lib.hid (by rw [HC.out, getD_none (by rw [LB.out]; omega)]; rfl)
       clear h1 b0
       go_wp2_with fail
       go_meet
       exact ⟨by rw [EE.out] <;> rfl, rfl⟩
     ·have EE : Hid (C = true) := Lib.hid (by rw [HC.out]; exact decide_eq_true (.inr (of_decide_eq_true HB.out.symm)))
      go_wp2_with fail
      go_meet
      exact ⟨by rw [EE.out] <;> rfl, rfl⟩
    case rest =>
     obtain ⟨rfl, rfl⟩ := hcut
     go_upto_if 40 with fail
     go_cut [4] (fun a wx => a = .int .i64 (A : Int) ∧ wx = wc)
     case first =>
      cases C
      ·have EE : Hid (A = 1) := Lib.hid (by rw [AC.out]; rfl)
       go_wp2_with fail
       go_meet
       exact ⟨by rw [EE.out] <;> rfl, rfl⟩
      ·have EE : Hid (A = 2) := Lib.hid (by rw [AC.out]; rfl)
       go_wp2_with fail
       go_meet
       exact ⟨by rw [EE.out] <;> rfl, rfl⟩
     case rest =>
      obtain ⟨rfl, rfl⟩ := hcut
      by_cases hz : n = 0
      ·have EZ := Lib.hid (zero.out hz)
       subst hz
       go_wp2_with (go_at_call 273; refine (C65.out _).mono ?_; rintro e w' ⟨rfl, rfl⟩)
       go_ret2
       exact ⟨by rw [EZ.out.1, EZ.out.2]; rfl, rfl⟩
      ·have hzi : ¬ (n : Int) = 0 := by omega
       have ZE := Lib.hid (ZZ.out hz)
       clear ZZ zero hz
       go_wp2_with (go_at_call 273; refine (C65.out _).mono ?_; rintro e w' ⟨rfl, rfl⟩)
       go_loopw [7, 8] (fun e i wx => ∃ j : Nat, i = .int .i64 j ∧ Hid (A ≤ j ∧ j ≤ A + n) ∧ e = .int .i64 ((min FAR4 (dval (((bl s).drop A).take (j - A))) : Nat) : Int) ∧ wx = wc) (fun _ i _ => A + n - (intOf i).toNat)
       case atStart => exact ⟨A, rfl, Lib.hid ⟨Nat.le_refl _, Nat.le_add_right _ _⟩, by rw [Nat.sub_self, List.take_zero]; rfl, rfl⟩
       case round =>
        obtain ⟨j, rfl, hJ, rfl, rfl⟩ := hrel
        by_cases hlt : j < A + n
        ·have hji : (j : Int) < (A : Int) + (n : Int) := by omega
         have hjs : j < s.size := by have := HNL.out; omega
         have hjs2 : (j : Int) < (s.size : Int) := by omega
         have hx := bl_get s j hjs
         have hx2 : ((bl s).drop A)[j - A]? = some (s[j]).toNat := by rw [List.getElem?_drop, show A + (j - A) = j by have := hJ.out.1; omega]; exact hx
         have hx3 : (((bl s).drop A).take (runD ((bl s).drop A)))[j - A]? = some (s[j]).toNat := by
          rw [← XN2.out, List.getElem?_take, if_pos (by have := hJ.out.1; omega)]; exact hx2
         have hdg := runD_dg ((bl s).drop A) _ (List.mem_of_getElem? hx3)
         have E := dval_take hx2
         obtain ⟨x, hxe⟩ : ∃ x, x = (s[j]).toNat := ⟨_, rfl⟩
         rw [← hxe] at hdg E
         obtain ⟨d, hde⟩ : ∃ d, d = x - 48 := ⟨_, rfl⟩
         rw [← hde] at E
         have d1 : (((s[j]).toNat : Nat) : Int) - 48 = (d : Int) := by omega
         have d2 : (d : Int) ≤ 9 := by omega
         have d3 : (48 : Int) ≤ (((s[j]).toNat : Nat) : Int) := by omega
         have d4 : IntKind.u8.wrap (d : Int) = (d : Int) := by
          have e : IntKind.u8.wrap (d : Int) = (d : Int) % 256 := rfl
          rw [e]; omega
         obtain ⟨u, hu⟩ : ∃ u, u = dval (((bl s).drop A).take (j - A)) := ⟨_, rfl⟩
         rw [← hu] at E ⊢
         have mn := cap_int (cap := FAR4) (by decide) u d
         have mm : min FAR4 u ≤ 4398046511104 := Nat.min_le_left _ _
         have E2 : Hid (dval (((bl s).drop A).take (j + 1 - A)) = u * 10 + d) := Lib.hid (by rw [show j + 1 - A = j - A + 1 by have := hJ.out.1; omega]; exact E)
         generalize hm1 : min FAR4 u = m1 at *
         generalize hm2 : min FAR4 (u * 10 + d) = m2 at *
         have HM2 := Lib.hid hm2
         have mm1 : (m1 : Int) ≤ 4398046511104 := by omega
         have mn2 : min (4398046511104 : Int) (10 * (m1 : Int) + (d : Int)) = (m2 : Int) := mn
         have HLT := Lib.hid hlt
         clear hx hx2 hx3 hdg E hxe hde hu mn mm hm1 hm2 hlt
         go_wp2_with fail
         go_roundw
         case rel => exact ⟨j + 1, by go_num, Lib.hid ⟨by have := hJ.out.1; omega, HLT.out⟩, by rw [E2.out, HM2.out], trivial⟩
         case measure => have := HLT.out; simp [intOf]; omega
        ·have hji : ¬ (j : Int) < (A : Int) + (n : Int) := by omega
         have hjn : j - A = n := by have := hJ.out; omega
         have VV : dval (((bl s).drop A).take (j - A)) = v := by rw [hjn, HX.out]
         rw [VV]
         have mm : min FAR4 v ≤ 4398046511104 := Nat.min_le_left _ _
         obtain ⟨m, hm⟩ : ∃ m, m = min FAR4 v := ⟨_, rfl⟩
         rw [← hm] at II mm ⊢
         have m1 : (m : Int) ≤ 4398046511104 := by omega
         clear hlt hjn VV hm mm
         cases B
         ·have IE := II.out
          simp only [Bool.false_eq_true, if_false] at IE
          replace IE := Lib.hid IE
          clear II
          go_wp2_with fail
          go_ret2
          exact ⟨by rw [IE.out, ZE.out]; push_cast; rfl, rfl⟩
         ·have IE := II.out
          simp only [if_true] at IE
          replace IE := Lib.hid IE
          clear II
          go_wp2_with fail
          go_ret2
          exact ⟨by rw [IE.out, ZE.out]; push_cast; rfl, rfl⟩
end Go.Proofs.YtlgencbldbpbdaaGreatDoor
namespace Go.Proofs.YtlgencbldbpbdaaGreatDoor
open Go.RowKit Fl
theorem results_tmp4 {fn : Func} {t u v x : Tmp} (h : fn.results = #[.tmp t, .tmp u, .tmp v, .tmp x]) (tmps : Array Value) (P : Program) (w : World) :
  (results fn tmps).run P w = .ok (.tuple #[tmps.getD t undef, tmps.getD u undef, tmps.getD v undef, tmps.getD x undef]) w := by
 simp [results, h, go_sem]
theorem bl_slice (s : ByteArray) (a b : Nat) (h : a ≤ b) : bl (s.extract a b) = ((bl s).drop a).take (b - a) := by
 rw [bl_extract, List.drop_take]
theorem bl_rest (s : ByteArray) (a : Nat) : bl (s.extract a s.size) = (bl s).drop a := by
 rw [bl_extract, ← bl_len s, List.take_length]
theorem size_tail (s : ByteArray) (a : Nat) : (s.extract a s.size).size ≤ s.size := by
 rw [← bl_len, bl_rest, List.length_drop, bl_len]; omega
set_option maxRecDepth 100000 in
set_option maxHeartbeats 2000000 in
theorem rFigure (s : ByteArray) (w : World) (hs : s.size ≤ 1000000000) :
  Calls Tryz.prog 220 #[.string s] w fun e w' => ((fDg (bl s) = [] ∧ e = .returned (.tuple #[.bool false, .string ⟨#[]⟩, .int .i64 0, .int .i64 0])) ∨
   (fDg (bl s) ≠ [] ∧ ∃ z : ByteArray, bl z = fDg (bl s) ∧ e = .returned (.tuple #[.bool (decide ((bl s).getD 0 0 = 45)), .string z, .int .i64 (fWh (bl s) + xI FAR4 ((bl s).drop (fTo (bl s)))), .int .i64 ((fTo (bl s) + xSz ((bl s).drop (fTo (bl s))) : Nat))]))) ∧ w = w' := by
 have s1 : (s.size : Int) ≤ 1000000000 := by omega
 have LB := Lib.hid (bl_len s)
 obtain ⟨l, hl⟩ : ∃ l, l = bl s := ⟨_, rfl⟩
 obtain ⟨B, hB⟩ : ∃ B, B = decide (l.getD 0 0 = 45) := ⟨_, rfl⟩
 obtain ⟨C, hC⟩ : ∃ C, C = decide (l.getD 0 0 = 43 ∨ l.getD 0 0 = 45) := ⟨_, rfl⟩
 obtain ⟨A, hA⟩ : ∃ A, A = fAt l := ⟨_, rfl⟩
 obtain ⟨W, hW⟩ : ∃ W, W = fWh l := ⟨_, rfl⟩
 obtain ⟨F, hF⟩ : ∃ F, F = fFr l := ⟨_, rfl⟩
 obtain ⟨T, hT⟩ : ∃ T, T = fTo l := ⟨_, rfl⟩
 obtain ⟨M, hM⟩ : ∃ M, M = A + W := ⟨_, rfl⟩
 obtain ⟨D, hD⟩ : ∃ D, D = decide (l.getD M 0 = 46) := ⟨_, rfl⟩
 obtain ⟨I, hI⟩ : ∃ I, I = xI FAR4 (l.drop T) := ⟨_, rfl⟩
 obtain ⟨X, hX⟩ : ∃ X, X = xSz (l.drop T) := ⟨_, rfl⟩
 rw [← hl, ← hB, ← hW, ← hT, ← hI, ← hX]
 have AC : Hid (A = if C = true then 1 else 0) := Lib.hid (by rw [hA, hC]; unfold fAt; simp only [decide_eq_true_eq])
 have ll : l.length = s.size := by rw [hl, bl_len]
 have n1 : A ≤ s.size := by rw [hA, ← ll]; exact fAt_le l
 have n2 : M ≤ s.size := by rw [hM, hA, hW, ← ll]; exact fWh_le l
 have n3 : T ≤ s.size := by rw [hT, ← ll]; exact fTo_le l
 have n4 : D = true → M + 1 + F ≤ s.size := fun h => by
  rw [hM, hA, hW, hF, ← ll]
  refine fFr_le ?_
  rw [← hA, ← hW, ← hM]
  exact of_decide_eq_true (by rw [← hD]; exact h)
 have HFd : Hid (D = true → F = runD (l.drop (M + 1))) := Lib.hid (fun h => by
  rw [hF]; unfold fFr
  rw [← hA, ← hW, ← hM, if_pos (of_decide_eq_true (by rw [← hD]; exact h))])
 have HFz : Hid (D = false → F = 0) := Lib.hid (fun h => by
  rw [hF]; refine fFr_zero ?_
  rw [← hA, ← hW, ← hM]
  exact of_decide_eq_false (by rw [← hD]; exact h))
 have HTt : Hid (D = true → W + F ≠ 0 → T = M + 1 + F) := Lib.hid (fun h h2 => by
  rw [hT]; unfold fTo
  rw [← hA, ← hW, ← hF, ← hM, if_pos ⟨of_decide_eq_true (by rw [← hD]; exact h), h2⟩])
 have HTf : Hid (D = false ∨ W + F = 0 → T = M) := Lib.hid (fun h => by
  rw [hT]; unfold fTo
  rw [← hA, ← hW, ← hF, ← hM, if_neg (fun e => h.elim (fun h => of_decide_eq_false (by rw [← hD]; exact h) e.1) (fun h => e.2 h))])
 have HDG : Hid (fDg l = (l.drop A).take W ++ (l.drop (M + 1)).take F) := Lib.hid (by unfold fDg; rw [← hA, ← hW, ← hF, ← hM])
 have HDL : Hid ((fDg l).length = W + F) := Lib.hid (by rw [hW, hF]; exact fDg_len l)
 have HWd : Hid (W = runD (l.drop A)) := Lib.hid (by rw [hW, hA]; rfl)
 have C65 := Lib.hid (fun w => rRun s A w hs n1)
 rw [← hl, ← HWd.out] at C65
 have C65b : Hid (D = true → ∀ w, Calls Tryz.prog 273 #[.string s, .int .i64 ((M + 1 : Nat) : Int)] w fun e w' => e = .returned (.int .i64 (F : Nat)) ∧ w = w') := Lib.hid (fun h w => by
  have := rRun s (M + 1) w hs (by have := n4 h; omega)
  rw [← hl, ← HFd.out h] at this
  exact this)
 have C66 := Lib.hid (fun w => rExp (s.extract T s.size) w (Nat.le_trans (size_tail s T) hs))
 rw [bl_rest, ← hl, ← hI, ← hX] at C66
 have IB : -(4398046511104 : Int) ≤ I ∧ I ≤ 4398046511104 := by rw [hI]; exact xI_le _
 obtain ⟨I1, I2⟩ := IB
 have XB : T + X ≤ s.size := by
  rw [hX]; unfold xSz
  split
  ·omega
  ·rename_i hz
   unfold xN at hz ⊢
   split at hz
   ·rename_i hc
    rw [if_pos hc]
    have h3 := runD_le ((l.drop T).drop (xAt (l.drop T)))
    rw [List.length_drop, List.length_drop, ll] at h3
    omega
   ·exact absurd rfl hz
 have HB := Lib.hid hB
 have HC := Lib.hid hC
 have HD := Lib.hid hD
 have HL := Lib.hid hl
 have HM := Lib.hid hM
 have LL := Lib.hid ll
 have b0 : Hid (∀ h : 0 < s.size, l.getD 0 0 = (s[0]).toNat) := Lib.hid (fun h => by rw [hl]; exact bl_getD s 0 h)
 have bM : Hid (∀ h : M < s.size, l.getD M 0 = (s[M]).toNat) := Lib.hid (fun h => by rw [hl]; exact bl_getD s M h)
 have a1 : (A : Int) ≤ (s.size : Int) := by omega
 have a2 : (M : Int) ≤ (s.size : Int) := by omega
 have a3 : (T : Int) ≤ (s.size : Int) := by omega
 have a4 : (A : Int) + (W : Int) = (M : Int) := by omega
 have a5 : (T : Int) + (X : Int) ≤ (s.size : Int) := by omega
 have a6 : (A : Int) ≤ (M : Int) := by omega
 have a7 : (W : Int) ≤ 1000000000 := by omega
 have N4 := Lib.hid n4
 have zl : Hid (bl (s.extract A M) = (l.drop A).take W) := Lib.hid (by rw [bl_slice s A M (by omega), ← hl, show M - A = W by omega])
 clear hl hB hC hA hW hF hT hM hD hI hX ll n1 n2 n3 n4 XB hs
 go_enter Tryz.func220, Tryz.ntmps220
 go_upto_region 2 with fail
 go_cut [7] (fun u wx => u = .bool B ∧ wx = w)
 case first =>
  by_cases h1 : 0 < s.size
  ·have x1 := b0.out h1
   have h1i : (0 : Int) < (s.size : Int) := by omega
   by_cases d1 : (s[0]).toNat = 45
   ·have EE : Hid (B = true) := Lib.hid (by rw [HB.out, x1]; exact decide_eq_true d1)
    have d1i : ((s[0]).toNat : Int) = 45 := by omega
    clear d1 x1
    go_wp2_with fail
    go_meet
    exact ⟨by rw [EE.out] <;> rfl, rfl⟩
   ·have EE : Hid (B = false) := Lib.hid (by rw [HB.out, x1]; exact decide_eq_false d1)
    have d1i : (((s[0]).toNat : Int) == 45) = false := beq_eq_false_iff_ne.2 (by omega)
    clear d1 x1
    go_wp2_with fail
    go_meet
    exact ⟨by rw [EE.out] <;> rfl, rfl⟩
  ·have h1i : ¬ (0 : Int) < (s.size : Int) := by omega
   have EE : Hid (B = false) := Lib.hid (by rw [HB.out, getD_none (by rw [LL.out]; omega)]; rfl)
   clear h1
   go_wp2_with fail
   go_meet
   exact ⟨by rw [EE.out] <;> rfl, rfl⟩
 case rest =>
  obtain ⟨rfl, rfl⟩ := hcut
  go_upto_region 3 with fail
  go_cut [32] (fun u wx => u = .bool C ∧ wx = wc)
  case first =>
   cases B
   ·have b0' := of_decide_eq_false HB.out.symm
    by_cases h1 : 0 < s.size
    ·have x1 := b0.out h1
     have h1i : (0 : Int) < (s.size : Int) := by omega
     by_cases d1 : (s[0]).toNat = 43
     ·have EE : Hid (C = true) := Lib.hid (by rw [HC.out, x1]; exact decide_eq_true (.inl d1))
      have d1i : ((s[0]).toNat : Int) = 43 := by omega
      clear d1 x1 b0'
      go_wp2_with fail
      go_meet
      exact ⟨by rw [EE.out] <;> rfl, rfl⟩
     ·have EE : Hid (C = false) := Lib.hid (by rw [HC.out]; exact decide_eq_false (fun e => e.elim (fun e => d1 (x1.symm.trans e)) b0'))
      have d1i : (((s[0]).toNat : Int) == 43) = false := beq_eq_false_iff_ne.2 (by omega)
      clear d1 x1 b0'
      go_wp2_with fail
      go_meet
      exact ⟨by rw [EE.out] <;> rfl, rfl⟩
    ·have h1i : ¬ (0 : Int) < (s.size : Int) := by omega
     have EE : Hid (C = false) := Lib.hid (by rw [HC.out, getD_none (by rw [LL.out]; omega)]; rfl)
     clear h1 b0'
     go_wp2_with fail
     go_meet
     exact ⟨by rw [EE.out] <;> rfl, rfl⟩
   ·have EE : Hid (C = true) := Lib.hid (by rw [HC.out]; exact decide_eq_true (.inr (of_decide_eq_true HB.out.symm)))
    go_wp2_with fail
    go_meet
    exact ⟨by rw [EE.out] <;> rfl, rfl⟩
  case rest =>
   obtain ⟨rfl, rfl⟩ := hcut
   go_upto_if 32 with fail
   go_cut [6] (fun a wx => a = .int .i64 (A : Int) ∧ wx = wc)
   case first =>
    cases C
    ·have EE : Hid (A = 0) := Lib.hid (by rw [AC.out]; rfl)
     go_wp2_with fail
     go_meet
     exact ⟨by rw [EE.out] <;> rfl, rfl⟩
    ·have EE : Hid (A = 1) := Lib.hid (by rw [AC.out]; rfl)
     go_wp2_with fail
     go_meet
     exact ⟨by rw [EE.out] <;> rfl, rfl⟩
   case rest =>
    obtain ⟨rfl, rfl⟩ := hcut
    go_upto_region 9 with (go_at_call 273; refine (C65.out _).mono ?_; rintro e w' ⟨rfl, rfl⟩)
    go_cut [55] (fun u wx => u = .bool D ∧ wx = wc)
    case first =>
     by_cases h1 : M < s.size
     ·have x1 := bM.out h1
      have h1i : (M : Int) < (s.size : Int) := by omega
      by_cases d1 : (s[M]).toNat = 46
      ·have EE : Hid (D = true) := Lib.hid (by rw [HD.out, x1]; exact decide_eq_true d1)
       have d1i : ((s[M]).toNat : Int) = 46 := by omega
       clear d1 x1
       go_wp2_with fail
       go_meet
       exact ⟨by rw [EE.out] <;> rfl, rfl⟩
      ·have EE : Hid (D = false) := Lib.hid (by rw [HD.out, x1]; exact decide_eq_false d1)
       have d1i : (((s[M]).toNat : Int) == 46) = false := beq_eq_false_iff_ne.2 (by omega)
       clear d1 x1
       go_wp2_with fail
       go_meet
       exact ⟨by rw [EE.out] <;> rfl, rfl⟩
     ·have h1i : ¬ (M : Int) < (s.size : Int) := by omega
      have EE : Hid (D = false) := Lib.hid (by rw [HD.out, getD_none (by rw [LL.out]; omega)]; rfl)
      clear h1
      go_wp2_with fail
      go_meet
      exact ⟨by rw [EE.out] <;> rfl, rfl⟩
    case rest =>
     obtain ⟨rfl, rfl⟩ := hcut
     go_upto_if 55 with fail
     go_cut [6, 9] (fun a d wx => ∃ z : ByteArray, d = .string z ∧ Hid (bl z = fDg l) ∧ a = .int .i64 (T : Int) ∧ wx = wc)
     case first =>
      cases D
      ·have E1 : Hid (F = 0) := Lib.hid (HFz.out rfl)
       have E2 : Hid (T = M) := Lib.hid (HTf.out (.inl rfl))
       have E3 : Hid (bl (s.extract A M) = fDg l) := Lib.hid (by rw [zl.out, HDG.out, E1.out, List.take_zero, List.append_nil])
       go_wp2_with fail
       go_meet
       exact ⟨_, rfl, E3, by rw [E2.out], rfl⟩
      ·have CC := Lib.hid (C65b.out rfl)
       have f1 : (M : Int) + 1 + (F : Int) ≤ (s.size : Int) := by have := N4.out rfl; omega
       have f0 : (M : Int) + 1 = ((M + 1 : Nat) : Int) := by omega
       obtain ⟨M1, hM1⟩ : ∃ M1, M1 = M + 1 := ⟨_, rfl⟩
       rw [← hM1] at CC f0
       obtain ⟨M2, hM2⟩ : ∃ M2, M2 = M1 + F := ⟨_, rfl⟩
       have f2 : (M1 : Int) + (F : Int) = (M2 : Int) := by omega
       have f3 : (M1 : Int) ≤ (M2 : Int) := by omega
       have f4 : (M2 : Int) ≤ (s.size : Int) := by omega
       have zl2 : Hid (bl (s.extract A M ++ s.extract M1 M2) = fDg l) := Lib.hid (by
        rw [bl_append, zl.out, HDG.out, bl_slice s M1 M2 (by omega), ← HL.out, show M2 - M1 = F by omega, hM1])
       by_cases hz : W + F = 0
       ·have E2 : Hid (T = M) := Lib.hid (HTf.out (.inr hz))
        have E3 : Hid (bl (s.extract A M) = fDg l) := Lib.hid (by rw [zl.out, HDG.out, show F = 0 by omega, List.take_zero, List.append_nil])
        have g1 : ¬ (0 : Int) < (W : Int) + (F : Int) := by omega
        clear hz f1 hM1 hM2
        go_wp2_with (go_at_call 273; refine (CC.out _).mono ?_; rintro e w' ⟨rfl, rfl⟩)
        go_meet
        exact ⟨_, rfl, E3, by rw [E2.out], rfl⟩
       ·have E2 : Hid ((M2 : Int) = (T : Int)) := Lib.hid (by rw [HTt.out rfl hz]; omega)
        have g1 : (0 : Int) < (W : Int) + (F : Int) := by omega
        clear hz f1 hM1 hM2
        go_wp2_with (go_at_call 273; refine (CC.out _).mono ?_; rintro e w' ⟨rfl, rfl⟩)
        go_meet
        exact ⟨_, rfl, zl2, by rw [E2.out], rfl⟩
     case rest =>
      obtain ⟨z, rfl, hz, rfl, rfl⟩ := hcut
      have zs : z.size = W + F := by rw [← bl_len, hz.out, HDL.out]
      by_cases h0 : W + F = 0
      ·have E : Hid (fDg l = []) := Lib.hid (List.eq_nil_of_length_eq_zero (by rw [HDL.out]; exact h0))
       have z0 : (z.size : Int) = 0 := by omega
       clear zs h0
       go_wp2_with fail
       ((try simp only [Exit.inBlock, Exit.then]); refine bodyPost_ret (results_tmp4 rfl _ _ _) rfl ?_)
       exact ⟨.inl ⟨E.out, rfl⟩, rfl⟩
      ·have E : Hid (fDg l ≠ []) := Lib.hid (fun e => h0 (by rw [← HDL.out, e]; rfl))
       have z0 : ¬ (z.size : Int) = 0 := by omega
       clear zs h0
       go_wp2_with (go_at_call 274; refine (C66.out _).mono ?_; rintro e w' ⟨rfl, rfl⟩)
       ((try simp only [Exit.inBlock, Exit.then]); refine bodyPost_ret (results_tmp4 rfl _ _ _) rfl ?_)
       exact ⟨.inr ⟨E.out, z, hz.out, rfl⟩, rfl⟩
end Go.Proofs.YtlgencbldbpbdaaGreatDoor
