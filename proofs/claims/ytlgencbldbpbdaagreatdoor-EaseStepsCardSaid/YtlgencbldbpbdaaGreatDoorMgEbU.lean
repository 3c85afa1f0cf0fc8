/- ease.Parse: the walk. ease: what steps and curves tell at the ends; steps tell whole parts (plain). ease: Print; the examples of the chapter (alive). galleyref01: Split, Drop, Nearest, Whole, Floor of numbers from 0 on. EaseSteps: the walk. -/
import Derived.Test.YtlgencbldbpbdaaGreatDoorMgEbK
import Derived.Test.YtlgencbldbpbdaaGreatDoorMgEbD
import Derived.BigQuiet
import Derived.Test.YtlgencbldbpbdaaGreatDoorMgDhD
import Derived.Deep.DeepCutAuto
namespace Go.Proofs.YtlgencbldbpbdaaGreatDoor
open Go.RowKit Fl
theorem ok_ptr {w w1 w' : World} {R : Option Ez} {z : Ez} {p : Nat} (e : R = some z) (hb : Below w.heap.size w w1) (h1 : w1.heap.size ≤ p) (h2 : EzAt w' p z) (h3 : Below w1.heap.size w1 w') : ParseR w R (.returned (.tuple #[ptr p, .nilIface])) w' := by
  rw [e]
  exact OkR.mono ⟨p, rfl, h1, h2, h3⟩ hb
theorem bad_ret {w w1 w' : World} {R : Option Ez} {N : Nat} (e : R = none) (hb : Below w.heap.size w w1) (h : w1.heap.size ≤ N ∧ N < w'.heap.size ∧ w'.cell? ⟨N, 0, none⟩ = some (.int .i64 0) ∧ w'.cell? ⟨N, 1, none⟩ = some (.int .i64 161) ∧ Below w1.heap.size w1 w') : ParseR w R (.returned (.tuple #[.pointer none, .iface 111 (.pointer (some ⟨N, 0, none⟩))])) w' := by
  rw [e]
  exact BadR.mono ⟨N, rfl, h⟩ hb
theorem drop_ext (u : ByteArray) : bl (u.extract 0 (u.size - 1)) = (bl u).dropLast := by
  unfold bl
  rw [ByteArray.data_extract, Array.toList_extract, List.extract_eq_take_drop, List.drop_zero, List.map_take, List.dropLast_eq_take, List.length_map]
  rfl
set_option maxRecDepth 100000 in
set_option maxHeartbeats 4000000 in
theorem k12 (s : ByteArray) (w : World) (he : EW w) : Calls Tryz.prog 12 #[.string s] w fun e w' => ParseR w (parseF (bl s)) e w' := by
  obtain ⟨R, hR0⟩ : ∃ R, R = parseF (bl s) := ⟨_, rfl⟩
  rw [← hR0]
  have HW := Lib.hid he
  have BD := Lib.hid (fun (w1 : World) => k36 w1)
  have hbl : (bl s).length = s.size := bl_len s
  by_cases h0 : 2000 < s.size
  · have e1 : Hid (R = none) := Lib.hid (by rw [hR0]; exact parse_long (by omega))
    have hc : (s.size : Int) > 2000 := by omega
    clear hR0 hbl h0 he
    go_enter Tryz.func12, Tryz.ntmps12
    go_wp2_with (go_at_call 36; refine (BD.out _).mono ?_; rintro e w9 ⟨N9, rfl, hb9⟩; have B9 := Lib.hid hb9; clear hb9)
    go_ret2
    exact bad_ret e1.out (Below.refl _ _) B9.out
  have hc : ¬ (s.size : Int) > 2000 := by omega
  have HR := Lib.hid (And.intro hR0 (show (bl s).length ≤ 2000 by omega))
  have C37 := Lib.hid (k37 s w (by omega))
  have HS := Lib.hid (show s.size ≤ 2000 by omega)
  clear hR0 hbl h0 he
  go_enter Tryz.func12, Tryz.ntmps12
  go_upto_region 4 with (go_at_call 37; refine C37.out.mono ?_; rintro e w1 ⟨⟨z, rfl, hz, hzs⟩, hb1⟩; have HZ := Lib.hid (And.intro hz hzs); have B1 := Lib.hid hb1; clear hz hzs hb1)
  have q1 : (z.toList == [108, 105, 110, 101, 97, 114]) = decide (bl z = aLinear) := tl_eq z [108, 105, 110, 101, 97, 114]
  have q2 : (z.toList == [101, 97, 115, 101]) = decide (bl z = aEase) := tl_eq z [101, 97, 115, 101]
  have q3 : (z.toList == [101, 97, 115, 101, 45, 105, 110]) = decide (bl z = aEaseIn) := tl_eq z [101, 97, 115, 101, 45, 105, 110]
  have q4 : (z.toList == [101, 97, 115, 101, 45, 111, 117, 116]) = decide (bl z = aEaseOut) := tl_eq z [101, 97, 115, 101, 45, 111, 117, 116]
  have q5 : (z.toList == [101, 97, 115, 101, 45, 105, 110, 45, 111, 117, 116]) = decide (bl z = aEaseIO) := tl_eq z [101, 97, 115, 101, 45, 105, 110, 45, 111, 117, 116]
  have q6 : (z.toList == [115, 116, 101, 112, 45, 115, 116, 97, 114, 116]) = decide (bl z = aStepStart) := tl_eq z [115, 116, 101, 112, 45, 115, 116, 97, 114, 116]
  have q7 : (z.toList == [115, 116, 101, 112, 45, 101, 110, 100]) = decide (bl z = aStepEnd) := tl_eq z [115, 116, 101, 112, 45, 101, 110, 100]
  have KW := Lib.hid (kw_facts (bl z))
  have FC := Lib.hid fw_consts
  have PT1 := Lib.hid ((HW.out.below B1.out).1)
  have KOK : Hid (∀ q, kwF (bl z) = some q → R = some q) := Lib.hid (fun q hq => by rw [HR.out.1]; exact parse_kw HR.out.2 (by rw [← HZ.out.1]; exact hq))
  by_cases c1 : bl z = aLinear
  · rw [decide_eq_true c1] at q1
    have e1 := Lib.hid (KOK.out _ (KW.out.1 c1))
    have E1 := Lib.hid (show bl z = textE .line from c1)
    clear q2 q3 q4 q5 q6 q7 c1
    go_wp2_with fail
    go_ret2
    refine ok_ptr (w1 := w1) e1.out B1.out (Nat.le_refl _) ⟨by simp, z, .func (.func 38) #[] #[], by simp, E1.out, by simp, rfl⟩ ((Below.refl _ _).alloc (Nat.le_refl _) _)
  rw [decide_eq_false c1] at q1
  by_cases c2 : bl z = aEase
  · rw [decide_eq_true c2] at q2
    have e1 := Lib.hid (KOK.out _ (KW.out.2.1 c2))
    have C39 := Lib.hid (k39 _ _ _ _ w1 FC.out.1.1 FC.out.2.1.1 FC.out.1.1 FC.out.2.2.1.1 PT1.out)
    clear q3 q4 q5 q6 q7 c1 c2
    go_wp2_with (go_at_call 39; refine C39.out.mono ?_; rintro e w9 ⟨p9, rfl, h9⟩; have H9 := Lib.hid h9; clear h9)
    go_ret2
    exact ok_ptr (w1 := w1) e1.out B1.out H9.out.1 H9.out.2.1 H9.out.2.2
  rw [decide_eq_false c2] at q2
  by_cases c3 : bl z = aEaseIn
  · rw [decide_eq_true c3] at q3
    have e1 := Lib.hid (KOK.out _ (KW.out.2.2.1 c3))
    have C39 := Lib.hid (k39 _ _ _ _ w1 FC.out.2.2.2.1.1 FC.out.2.2.2.2.1.1 FC.out.2.2.1.1 FC.out.2.2.1.1 PT1.out)
    clear q4 q5 q6 q7 c1 c2 c3
    go_wp2_with (go_at_call 39; refine C39.out.mono ?_; rintro e w9 ⟨p9, rfl, h9⟩; have H9 := Lib.hid h9; clear h9)
    go_ret2
    exact ok_ptr (w1 := w1) e1.out B1.out H9.out.1 H9.out.2.1 H9.out.2.2
  rw [decide_eq_false c3] at q3
  by_cases c4 : bl z = aEaseOut
  · rw [decide_eq_true c4] at q4
    have e1 := Lib.hid (KOK.out _ (KW.out.2.2.2.1 c4))
    have C39 := Lib.hid (k39 _ _ _ _ w1 FC.out.2.2.2.2.1.1 FC.out.2.2.2.2.1.1 FC.out.2.2.2.2.2.1 FC.out.2.2.1.1 PT1.out)
    clear q5 q6 q7 c1 c2 c3 c4
    go_wp2_with (go_at_call 39; refine C39.out.mono ?_; rintro e w9 ⟨p9, rfl, h9⟩; have H9 := Lib.hid h9; clear h9)
    go_ret2
    exact ok_ptr (w1 := w1) e1.out B1.out H9.out.1 H9.out.2.1 H9.out.2.2
  rw [decide_eq_false c4] at q4
  by_cases c5 : bl z = aEaseIO
  · rw [decide_eq_true c5] at q5
    have e1 := Lib.hid (KOK.out _ (KW.out.2.2.2.2.1 c5))
    have C39 := Lib.hid (k39 _ _ _ _ w1 FC.out.2.2.2.1.1 FC.out.2.2.2.2.1.1 FC.out.2.2.2.2.2.1 FC.out.2.2.1.1 PT1.out)
    clear q6 q7 c1 c2 c3 c4 c5
    go_wp2_with (go_at_call 39; refine C39.out.mono ?_; rintro e w9 ⟨p9, rfl, h9⟩; have H9 := Lib.hid h9; clear h9)
    go_ret2
    exact ok_ptr (w1 := w1) e1.out B1.out H9.out.1 H9.out.2.1 H9.out.2.2
  rw [decide_eq_false c5] at q5
  by_cases c6 : bl z = aStepStart
  · rw [decide_eq_true c6] at q6
    have e1 := Lib.hid (KOK.out _ (KW.out.2.2.2.2.2.1 c6))
    have C40 := Lib.hid (k40 1 1 w1 (by decide) (by decide) (by decide) (by decide) PT1.out)
    clear q7 c1 c2 c3 c4 c5 c6
    go_wp2_with (go_at_call 40; refine C40.out.mono ?_; rintro e w9 ⟨p9, rfl, h9⟩; have H9 := Lib.hid h9; clear h9)
    go_ret2
    exact ok_ptr (w1 := w1) e1.out B1.out H9.out.1 H9.out.2.1 H9.out.2.2
  rw [decide_eq_false c6] at q6
  by_cases c7 : bl z = aStepEnd
  · rw [decide_eq_true c7] at q7
    have e1 := Lib.hid (KOK.out _ (KW.out.2.2.2.2.2.2.1 c7))
    have C40 := Lib.hid (k40 1 2 w1 (by decide) (by decide) (by decide) (by decide) PT1.out)
    clear c1 c2 c3 c4 c5 c6 c7
    go_wp2_with (go_at_call 40; refine C40.out.mono ?_; rintro e w9 ⟨p9, rfl, h9⟩; have H9 := Lib.hid h9; clear h9)
    go_ret2
    exact ok_ptr (w1 := w1) e1.out B1.out H9.out.1 H9.out.2.1 H9.out.2.2
  rw [decide_eq_false c7] at q7
  have AR : Hid (R = argF (bl z)) := Lib.hid (by rw [HR.out.1, HZ.out.1]; exact parse_ar HR.out.2 (by rw [← HZ.out.1]; exact KW.out.2.2.2.2.2.2.2 c1 c2 c3 c4 c5 c6 c7))
  have zs : z.size ≤ 2000 := by have h1 := HZ.out.2; have h2 := HS.out; omega
  have C41 := cCut z w1 (HW.out.below B1.out) (by omega)
  clear c1 c2 c3 c4 c5 c6 c7 KW KOK FC
  by_cases c8 : 40 ∈ bl z
  case neg =>
    rw [decide_eq_false c8] at C41
    have D41 := Lib.hid C41
    have e1 := Lib.hid (AR.out.trans (arg_none (fun c => c8 c.1)))
    clear c8 C41 zs
    go_wp2_with (first
      | (go_at_call 41; refine D41.out.mono ?_; rintro e w2 ⟨⟨y, u, rfl, -, -⟩, n2, rfl⟩)
      | (go_at_call 36; refine (BD.out _).mono ?_; rintro e w9 ⟨N9, rfl, hb9⟩; have B9 := Lib.hid hb9; clear hb9))
    go_ret2
    exact bad_ret e1.out (Bdn B1.out n2) B9.out
  rw [decide_eq_true c8] at C41
  have D41 := Lib.hid C41
  have H8 := Lib.hid c8
  have ZS := Lib.hid zs
  clear c8 C41 zs
  go_upto_region 20 with (go_at_call 41; refine D41.out.mono ?_; rintro e w2 ⟨⟨y, u, rfl, hu, hyu⟩, n2, rfl⟩; have HU := Lib.hid (And.intro hu (hyu H8.out)); clear hu hyu)
  have us : u.size ≤ 2000 := by have h1 := HU.out.1; have h2 := ZS.out; omega
  have C42 := Lib.hid (fun (w1 : World) => strings_HasSuffix u ⟨#[41]⟩ w1 (by omega))
  rw [show (⟨#[41]⟩ : ByteArray).data.toList = [41] from rfl, suffix_one 41 u.data.toList] at C42
  have B2 := Lib.hid (Bdn B1.out n2)
  by_cases c9 : ((u.data.toList.map UInt8.toNat).getLast? = some (UInt8.toNat 41))
  case neg =>
    rw [decide_eq_false c9] at C42
    have e1 := Lib.hid (AR.out.trans (arg_none (fun c => c9 (by have h := c.2; rw [← HU.out.2.2] at h; exact h))))
    clear c9 us
    go_wp2_with (first
      | (go_at_call 42; refine (C42.out _).mono ?_; rintro e w5 ⟨rfl, rfl⟩)
      | (go_at_call 36; refine (BD.out _).mono ?_; rintro e w9 ⟨N9, rfl, hb9⟩; have B9 := Lib.hid hb9; clear hb9))
    go_ret2
    exact bad_ret e1.out B2.out B9.out
  rw [decide_eq_true c9] at C42
  have u1 : 1 ≤ u.size := by
    rw [← bl_len]
    cases h : bl u with
    | nil => unfold bl at h; rw [h] at c9; cases c9
    | cons a l => simp
  have H9 := Lib.hid (And.intro c9 (And.intro u1 us))
  obtain ⟨n, hn⟩ : ∃ n, n = u.size - 1 := ⟨_, rfl⟩
  have l1 : wrap64 ((u.size : Int) - 1) = (n : Int) := by unfold wrap64; omega
  have l2 : (n : Int) ≤ (u.size : Int) := by omega
  obtain ⟨x, hx⟩ : ∃ x, x = u.extract 0 n := ⟨_, rfl⟩
  have HX : Hid (bl x = (aftN 40 (bl z)).dropLast) := Lib.hid (by rw [hx, hn, drop_ext, HU.out.2.2])
  have xs : x.size ≤ 2000 := by
    rw [← bl_len, HX.out, List.length_dropLast, ← show bl u = aftN 40 (bl z) from HU.out.2.2, bl_len]; omega
  have CS := Lib.hid (fun (w1 : World) (h : EW w1) => cSplit x w1 h xs)
  have HXS := Lib.hid xs
  have W2 := Lib.hid (HW.out.below B2.out)
  clear c9 us u1 xs hn
  rw [hx] at CS
  go_upto_region 23 with (first
      | (go_at_call 42; refine (C42.out _).mono ?_; rintro e w5 ⟨rfl, rfl⟩)
      | (go_at_call 43; refine (CS.out _ W2.out).mono ?_; rintro e w3 ⟨vs, rfl, hv⟩; have HV := Lib.hid hv; clear hv))
  obtain ⟨g, hg⟩ : ∃ g, g = w1.heap.size := ⟨_, rfl⟩
  obtain ⟨m, hm⟩ : ∃ m, m = vs.length := ⟨_, rfl⟩
  have V1 : Hid (vs.map bl = splN 44 (bl x) ∧ SB w3 g vs ∧ 1 ≤ m ∧ m ≤ 2001 ∧ Below g (w1.drewN n2) w3) := Lib.hid ⟨by rw [hx]; exact HV.out.1, by rw [hg]; exact HV.out.2.1, by rw [hm]; exact HV.out.2.2.1, by rw [hm]; exact HV.out.2.2.2.1, by rw [hg]; exact HV.out.2.2.2.2⟩
  have VL : Hid (vs.length = m) := Lib.hid hm.symm
  have GL : Hid (w.heap.size ≤ g) := Lib.hid (by rw [hg]; exact B1.out.size)
  have B3 : Hid (Below w.heap.size w w3) := Lib.hid (B2.out.trans (V1.out.2.2.2.2.mono (by have := GL.out; rw [hg]; exact B1.out.size)))
  rw [← hg, ← hm]
  have P0 : Hid (SB w3 g ([] ++ vs.drop 0)) := Lib.hid V1.out.2.1
  have VS : Hid (∀ v ∈ vs, v.size ≤ 2000) := Lib.hid (fun v hv => by
    have h1 := splN_len 44 (bl x) (bl v) (by rw [← V1.out.1]; exact List.mem_map_of_mem hv)
    rw [bl_len, bl_len] at h1
    have := HXS.out
    omega)
  clear hg hm HV C42 CS D41
  go_wp2_with fail
  go_loopw [66] (fun i wx => ∃ (k : Nat) (zs : List ByteArray), k ≤ m ∧ i = .int .i64 k ∧ Hid (zs.length = k ∧ zs.map bl = ((vs.take k).map bl).map trimN ∧ ∀ z ∈ zs, z.size ≤ 2000) ∧ Hid (SB wx g (zs ++ vs.drop k)) ∧ Hid (Below w.heap.size w wx)) (fun i _ => m - (Lib.intOf i).toNat)
  case atStart => exact ⟨0, [], Nat.zero_le _, rfl, Lib.hid ⟨rfl, rfl, fun z h => by cases h⟩, P0, B3⟩
  case round =>
    clear P0 B3
    obtain ⟨k, zs, hk, rfl, hZ, hS, hB⟩ := hrel
    by_cases hlt : k < m
    · have hki : (k : Int) < (m : Int) := by omega
      obtain ⟨v, hv⟩ : ∃ v, vs[k]? = some v := ⟨vs[k]'(by have := VL.out; omega), List.getElem?_eq_getElem _⟩
      have kc := hS.out.cell (get_next hZ.out.1 hv)
      have sv := VS.out v (List.mem_of_getElem? hv)
      have C37' := Lib.hid (fun (w1 : World) => k37 v w1 (by omega))
      have HVV := Lib.hid (And.intro hv (And.intro hlt sv))
      clear hv hlt sv hk
      go_wp2_with (go_at_call 37; refine (C37'.out _).mono ?_; rintro e w5 ⟨⟨y5, rfl, hy, hys⟩, hb5⟩; have HY := Lib.hid (And.intro hy hys); have S5 := Lib.hid (hS.out.below hb5); have kc5 := S5.out.cell (get_next hZ.out.1 HVV.out.1); have kf5 := S5.out.frozen k; have B5 := Lib.hid (hB.out.trans (hb5.mono hB.out.size)); clear hy hys hb5)
      go_roundw
      case rel =>
        have hb := V1.out.2.2.2.1
        have hb2 := HVV.out.2.1
        refine ⟨k + 1, zs ++ [y5], by omega, by rw [show wrap64 ((k : Int) + 1) = ((k + 1 : Nat) : Int) by unfold wrap64; omega], Lib.hid ⟨by rw [List.length_append, hZ.out.1]; rfl, ?_, ?_⟩, Lib.hid ?_, Lib.hid (B5.out.setCell (p := ⟨g, k, none⟩) GL.out _)⟩
        · rw [take_next HVV.out.1, List.map_append, List.map_append, List.map_append, hZ.out.2.1, List.map_cons, HY.out.1]; rfl
        · intro z hz
          rcases List.mem_append.1 hz with hz | hz
          · exact hZ.out.2.2 z hz
          · rw [List.mem_singleton.1 hz]; have h1 := HY.out.2; have h2 := HVV.out.2.2; omega
        · rw [← set_next hZ.out.1 (by rw [VL.out]; exact HVV.out.2.1)]; exact S5.out.set k y5
      case measure =>
        have h1 : wrap64 ((k : Int) + 1) = (k : Int) + 1 := by have := V1.out.2.2.2.1; unfold wrap64; omega
        have := HVV.out.2.1
        rw [h1]; simp [Lib.intOf]; omega
    · have hki : ¬ (k : Int) < (m : Int) := by omega
      have e : k = m := by omega
      subst e
      have hd : vs.drop k = [] := List.drop_of_length_le (by rw [VL.out]; exact Nat.le_refl _)
      have S9 : Hid (LS wr g zs) := Lib.hid (by have := hS.out; rw [hd, List.append_nil] at this; exact this.ls)
      have hp : zs.map bl = (splN 44 (aftN 40 (bl z)).dropLast).map trimN := by
        rw [hZ.out.2.1, List.take_of_length_le (by rw [VL.out]; exact Nat.le_refl _), V1.out.1, HX.out]
      have E9 := Lib.hid (HW.out.below hB.out)
      have AF : Hid (R = fnF (bl y) (zs.map bl)) := Lib.hid (by rw [hp, HU.out.2.1]; exact AR.out.trans (arg_fn H8.out (by
        have h := H9.out.1
        rw [show (u.data.toList.map UInt8.toNat) = bl u from rfl, HU.out.2.2] at h
        exact h)))
      have K9 := Lib.hid (And.intro V1.out.2.2.1 V1.out.2.2.2.1)
      have ZL := Lib.hid hZ.out.1
      have ZZ := Lib.hid hZ.out.2.2
      have p1 : (y.toList == [99, 117, 98, 105, 99, 45, 98, 101, 122, 105, 101, 114]) = decide (bl y = aCubic) := tl_eq y [99, 117, 98, 105, 99, 45, 98, 101, 122, 105, 101, 114]
      have p2 : (y.toList == [115, 116, 101, 112, 115]) = decide (bl y = aStepsW) := tl_eq y [115, 116, 101, 112, 115]
      have p3 : (y.toList == [108, 105, 110, 101, 97, 114]) = decide (bl y = aLinear) := tl_eq y [108, 105, 110, 101, 97, 114]
      clear q1 q2 q3 q4 q5 q6 q7 hp hd hS hZ V1 VL VS
      by_cases d1 : bl y = aCubic
      · rw [decide_eq_true d1] at p1
        obtain ⟨o, ho⟩ : ∃ o, o = curveF (zs.map bl) := ⟨_, rfl⟩
        have eR : Hid (R = o) := Lib.hid (by rw [AF.out, d1, fnF_c, ho])
        have C44 : Hid (Calls Tryz.prog 44 #[.slice (some ⟨g, 0, none⟩) k k] wr fun e w' => ParseR wr o e w') := Lib.hid (by
          have h := k44 g zs k wr S9.out E9.out ZZ.out (by rw [ZL.out]; have := K9.out.2; omega)
          rw [ZL.out, ← ho] at h
          exact h)
        clear p2 p3 d1 ho
        cases o with
        | none =>
          go_wp2_with (go_at_call 44; refine C44.out.mono ?_; rintro e w9 ⟨N9, rfl, hb9⟩; have B9 := Lib.hid hb9; clear hb9)
          go_ret2
          exact bad_ret eR.out hB.out B9.out
        | some z9 =>
          go_wp2_with (go_at_call 44; refine C44.out.mono ?_; rintro e w9 ⟨p9, rfl, h9⟩; have B9 := Lib.hid h9; clear h9)
          go_ret2
          exact ok_ptr (w1 := wr) eR.out hB.out B9.out.1 B9.out.2.1 B9.out.2.2
      rw [decide_eq_false d1] at p1
      by_cases d2 : bl y = aStepsW
      · rw [decide_eq_true d2] at p2
        obtain ⟨o, ho⟩ : ∃ o, o = stepsF (zs.map bl) := ⟨_, rfl⟩
        have eR : Hid (R = o) := Lib.hid (by rw [AF.out, d2, fnF_s, ho])
        have C45 : Hid (Calls Tryz.prog 45 #[.slice (some ⟨g, 0, none⟩) k k] wr fun e w' => ParseR wr o e w') := Lib.hid (by
          have hl := ZL.out
          have h1 := K9.out.1
          have s9 := S9.out
          have z9 := ZZ.out
          cases zs with
          | nil => simp at hl; omega
          | cons x0 r =>
            have h := k45 g x0 r k wr s9 E9.out z9
            rw [← ho, show r.length + 1 = k from hl] at h
            exact h)
        clear p3 d1 d2 ho
        cases o with
        | none =>
          go_wp2_with (go_at_call 45; refine C45.out.mono ?_; rintro e w9 ⟨N9, rfl, hb9⟩; have B9 := Lib.hid hb9; clear hb9)
          go_ret2
          exact bad_ret eR.out hB.out B9.out
        | some z9 =>
          go_wp2_with (go_at_call 45; refine C45.out.mono ?_; rintro e w9 ⟨p9, rfl, h9⟩; have B9 := Lib.hid h9; clear h9)
          go_ret2
          exact ok_ptr (w1 := wr) eR.out hB.out B9.out.1 B9.out.2.1 B9.out.2.2
      rw [decide_eq_false d2] at p2
      by_cases d3 : bl y = aLinear
      · rw [decide_eq_true d3] at p3
        obtain ⟨o, ho⟩ : ∃ o, o = ptsF (zs.map bl) := ⟨_, rfl⟩
        have eR : Hid (R = o) := Lib.hid (by rw [AF.out, d3, fnF_l, ho])
        have C46 : Hid (Calls Tryz.prog 46 #[.slice (some ⟨g, 0, none⟩) k k] wr fun e w' => ParseR wr o e w') := Lib.hid (by
          have h := k46 g zs k wr S9.out E9.out ZZ.out (by rw [ZL.out]; have := K9.out.2; omega)
          rw [ZL.out, ← ho] at h
          exact h)
        clear d1 d2 d3 ho
        cases o with
        | none =>
          go_wp2_with (go_at_call 46; refine C46.out.mono ?_; rintro e w9 ⟨N9, rfl, hb9⟩; have B9 := Lib.hid hb9; clear hb9)
          go_ret2
          exact bad_ret eR.out hB.out B9.out
        | some z9 =>
          go_wp2_with (go_at_call 46; refine C46.out.mono ?_; rintro e w9 ⟨p9, rfl, h9⟩; have B9 := Lib.hid h9; clear h9)
          go_ret2
          exact ok_ptr (w1 := wr) eR.out hB.out B9.out.1 B9.out.2.1 B9.out.2.2
      rw [decide_eq_false d3] at p3
      have eR : Hid (R = none) := Lib.hid (by rw [AF.out, fn_none _ d1 d2 d3])
      clear d1 d2 d3
      go_wp2_with (go_at_call 36; refine (BD.out _).mono ?_; rintro e w9 ⟨N9, rfl, hb9⟩; have B9 := Lib.hid hb9; clear hb9)
      go_ret2
      exact bad_ret eR.out hB.out B9.out
end Go.Proofs.YtlgencbldbpbdaaGreatDoor

namespace Go.Proofs.YtlgencbldbpbdaaGreatDoor
open Go.RowKit Fl
theorem one_pos' : 0 < ONE := by have := one_posi; unfold ONEi at this; omega
/-! the texts -/
/-! whole parts -/
theorem rhe_near {A B s : Nat} (hB : 0 < B) (h1 : 2 * A < (2 * s + 1) * B) (h2 : 2 * s * B < 2 * A + B) : rhe A B = s := by
  have hd := Nat.div_add_mod A B
  have hm := Nat.mod_lt A hB
  unfold rhe
  generalize A % B = r at *
  generalize A / B = q at *
  have e1 : (2 * s + 1) * B = 2 * (B * s) + B := by rw [Nat.add_mul, Nat.one_mul, Nat.mul_assoc, Nat.mul_comm s]
  have e2 : 2 * s * B = 2 * (B * s) := by rw [Nat.mul_assoc, Nat.mul_comm s]
  rw [e1] at h1
  rw [e2] at h2
  have c1 : q < s + 1 := by
    refine Nat.lt_of_not_le fun c => ?_
    have : B * (s + 1) ≤ B * q := Nat.mul_le_mul_left _ c
    rw [Nat.mul_add, Nat.mul_one] at this
    omega
  have c2 : s < q + 2 := by
    refine Nat.lt_of_not_le fun c => ?_
    have : B * (q + 2) ≤ B * s := Nat.mul_le_mul_left _ c
    rw [Nat.mul_add] at this
    omega
  have : q = s ∨ q + 1 = s := by omega
  rcases this with e | e
  · subst e
    rw [if_neg (by omega)]; rfl
  · subst e
    rw [Nat.mul_add, Nat.mul_one] at h1 h2
    rw [if_pos (by omega)]
theorem back_whole {s m : Nat} (h0 : 0 < m) (hm : m ≤ 1073741824) (hs : s ≤ m) : rnd (V (qR s m) * m) < INF ∧ rhe (V (rnd (V (qR s m) * m))) ONE = s := by
  obtain ⟨-, h1, h2, h3⟩ := parts_back_near s m h0 hm hs
  refine ⟨h1, rhe_near one_pos' ?_ ?_⟩
  · rw [Nat.add_mul, Nat.one_mul, Nat.mul_assoc]
    have hp : 0 < 2 ^ KA := Nat.two_pow_pos _
    have hO : ONE = 2097152 * 2 ^ KA := by rw [ka_kb, kb]
    omega
  · have hp : 0 < 2 ^ KA := Nat.two_pow_pos _
    have hO : ONE = 2097152 * 2 ^ KA := by rw [ka_kb, kb]
    rw [Nat.mul_assoc]
    omega
theorem sSt_le (n j X : Nat) : sSt n j X ≤ jM n j := Nat.min_le_right _ _
theorem bSt_le (n j X : Nat) : bSt n j X ≤ jM n j := by
  unfold bSt
  split
  · exact Nat.min_le_right _ _
  · exact sSt_le n j X
theorem jM_iP {n j : Nat} (hn : n ≤ 999999999) : PU (iP (jM n j : Nat)) ((jM n j : Nat) * ONEi) := iP_nat _ (by have := jM_le (j := j) hn; omega)
/-- THE LAYER's THEOREM of steps, in plain words -/
theorem steps_law {n j X Y : Nat} {x y i k : Int} (hx : PU x X) (hy : PU y Y) (hXY : X ≤ Y) (hY : Y ≤ ONE) (h2 : 2 ≤ n) (hn : n ≤ 999999999) (hi : PU i ((sSt n j X : Nat) * ONEi)) (hk : PU k ((bSt n j X : Nat) * ONEi)) :
    fleP (stepsP n j x false) (stepsP n j y false) = true ∧ fleP 0 (stepsP n j x false) = true ∧ fleP (stepsP n j y false) (iP 1) = true ∧
    feqP (opP .quo i (iP (jM n j : Nat))) (stepsP n j x false) = true ∧ feqP (opP .quo k (iP (jM n j : Nat))) (stepsP n j x true) = true ∧
    (feqP k i = true ∨ (ySt n X % ONE = 0 ∧ (feqP k (opP .sub i (iP 1)) = true ∨ feqP k 0 = true))) := by
  obtain ⟨px, bx⟩ := steps_PU (j := j) hx (Nat.le_trans hXY hY) h2 hn
  obtain ⟨py, -⟩ := steps_PU (j := j) hy hY h2 hn
  have m0 := jM_pos (j := j) h2
  have m1 := jM_le (j := j) hn
  refine ⟨?_, ?_, ?_, ?_, ?_, ?_⟩
  · rw [px.le py]
    refine decide_eq_true ?_
    have := part_mono (m := jM n j) m0 (s_mono (n := n) (j := j) hXY)
    omega
  · rw [PU.zero.le px]; exact decide_eq_true (Int.natCast_nonneg _)
  · rw [py.le iP_one]
    refine decide_eq_true ?_
    have := parts_one m0 (sSt_le n j Y)
    rw [Int.one_mul]; unfold ONEi; omega
  · rw [(hi.part (jM_iP hn) m0 m1 (sSt_le n j X)).eqP px]
    exact decide_eq_true rfl
  · rw [(hk.part (jM_iP hn) m0 m1 (bSt_le n j X)).eqP bx]
    exact decide_eq_true rfl
  · rw [hk.eqP hi]
    by_cases c : ySt n X % ONE = 0
    · by_cases e : bSt n j X = sSt n j X
      · left; rw [e]; exact decide_eq_true rfl
      · right
        refine ⟨c, ?_⟩
        have hs : bSt n j X + 1 = sSt n j X := by
          unfold bSt at e ⊢
          rw [if_pos c] at e ⊢
          unfold sSt at e ⊢
          generalize ySt n X / ONE + (if j = 1 ∨ j = 4 then 1 else 0) = f at *
          omega
        left
        have hb := sSt_le n j X
        have hr := rep_whole ((sSt n j X : Int) - 1) (by omega)
        rw [← whole_sub] at hr
        have h3 := hi.sub iP_one hr
        rw [whole_sub] at h3
        rw [hk.eqP h3]
        refine decide_eq_true ?_
        congr 1
        omega
    · left
      have : bSt n j X = sSt n j X := by unfold bSt; rw [if_neg c]
      rw [this]; exact decide_eq_true rfl
end Go.Proofs.YtlgencbldbpbdaaGreatDoor

namespace Go.Proofs.YtlgencbldbpbdaaGreatDoor
open Go.RowKit Fl
set_option maxRecDepth 100000 in
theorem k13 (b : Nat) (z : Ez) (w : World) (hz : EzAt w b z) : Calls Tryz.prog 13 #[ptr b] w fun e w' => (∃ s : ByteArray, e = .returned (.string s) ∧ bl s = textE z) ∧ w = w' := by
  obtain ⟨-, s, v, k0, hs, -, -⟩ := hz
  have HS := Lib.hid hs
  clear hs
  go_enter Tryz.func13, Tryz.ntmps13
  go_wp2
  go_ret
  exact ⟨⟨s, rfl, HS.out⟩, rfl⟩
theorem tl_true (s : ByteArray) (c : List UInt8) (h : bl s = c.map UInt8.toNat) : (s.toList == c) = true := by rw [tl_eq, decide_eq_true h]
def al1 : List Nat := [115, 116, 101, 112, 115, 40, 32, 51, 32, 41]
def al2 : List Nat := [99, 117, 98, 105, 99, 45, 98, 101, 122, 105, 101, 114, 40, 48, 46, 50, 53, 44, 32, 48, 46, 49, 44, 32, 48, 46, 50, 53, 44, 32, 49, 41]
def al3 : List Nat := [115, 116, 101, 112, 115, 40, 48, 41]
abbrev alC : Ez := .curve 4598175219545276416 4591870180066957722 4598175219545276416 4607182418800017408
theorem al_1 : parseF al1 = some (.steps 3 2) := by kernel_rfl
theorem al_2 : parseF al2 = some alC := by kernel_rfl
theorem al_3 : parseF al3 = none := by kernel_rfl
theorem al_t : textE (.steps 3 2) = [115, 116, 101, 112, 115, 40, 51, 44, 32, 106, 117, 109, 112, 45, 101, 110, 100, 41] := by decide +kernel
theorem al_x : feqP (atP alC (pl 13830554455654793216) false) (pl 13824249416176474522) = true := by decide +kernel
theorem al_y : feqP (atP alC (iP 1) false) (iP 1) = true := by decide +kernel
theorem al_z : feqP (atP (.steps 3 2) (pl 4602678819172646912) false) (pl 4599676419421066581) = true := by decide +kernel
theorem al_u : U 13830554455654793216 ∧ U 13824249416176474522 ∧ U 4602678819172646912 ∧ U 4599676419421066581 := by unfold U; decide
theorem al_X : ∃ P Q : Int, (RV 13824249416176474522 Q ∧ feqP P Q = true) ∧ ∀ (b : Nat) (w : World), EzAt w b alC → Calls Tryz.prog 15 #[.pointer (some ⟨b, 0, none⟩), .float .f64 13830554455654793216, .bool false] w fun e w' => RetR P e ∧ Below w.heap.size w w' :=
  ⟨_, _, ⟨RV.self al_u.2.1, al_x⟩, fun b w h => k15 (RV.self al_u.1) b alC false w h⟩
theorem al_Y : ∃ P Q : Int, (RV 4607182418800017408 Q ∧ feqP P Q = true) ∧ ∀ (b : Nat) (w : World), EzAt w b alC → Calls Tryz.prog 15 #[.pointer (some ⟨b, 0, none⟩), .float .f64 4607182418800017408, .bool false] w fun e w' => RetR P e ∧ Below w.heap.size w w' :=
  ⟨_, _, ⟨one_RV, al_y⟩, fun b w h => k15 one_RV b alC false w h⟩
theorem al_Z : ∃ P Q : Int, (RV 4599676419421066581 Q ∧ feqP P Q = true) ∧ ∀ (b : Nat) (w : World), EzAt w b (.steps 3 2) → Calls Tryz.prog 15 #[.pointer (some ⟨b, 0, none⟩), .float .f64 4602678819172646912, .bool false] w fun e w' => RetR P e ∧ Below w.heap.size w w' :=
  ⟨_, _, ⟨RV.self al_u.2.2.2, al_z⟩, fun b w h => k15 (RV.self al_u.2.2.1) b (.steps 3 2) false w h⟩
set_option maxRecDepth 100000 in
set_option maxHeartbeats 4000000 in
theorem k11 (w : World) (he : EW w) : Calls Tryz.prog 11 #[] w fun e w' => e = .returned (.bool true) ∧ Below w.heap.size w w' := by
  have C1 : Hid (Calls Tryz.prog 12 #[.string ⟨#[115, 116, 101, 112, 115, 40, 32, 51, 32, 41]⟩] w fun e w' => OkR w (.steps 3 2) e w') := Lib.hid (by
    have h := k12 ⟨#[115, 116, 101, 112, 115, 40, 32, 51, 32, 41]⟩ w he
    rw [show bl ⟨#[115, 116, 101, 112, 115, 40, 32, 51, 32, 41]⟩ = al1 from rfl, al_1] at h
    exact h)
  have C2 : Hid (∀ w1, EW w1 → Calls Tryz.prog 12 #[.string ⟨#[99, 117, 98, 105, 99, 45, 98, 101, 122, 105, 101, 114, 40, 48, 46, 50, 53, 44, 32, 48, 46, 49, 44, 32, 48, 46, 50, 53, 44, 32, 49, 41]⟩] w1 fun e w' => OkR w1 alC e w') := Lib.hid (fun w1 h1 => by
    have h := k12 ⟨#[99, 117, 98, 105, 99, 45, 98, 101, 122, 105, 101, 114, 40, 48, 46, 50, 53, 44, 32, 48, 46, 49, 44, 32, 48, 46, 50, 53, 44, 32, 49, 41]⟩ w1 h1
    rw [show bl ⟨#[99, 117, 98, 105, 99, 45, 98, 101, 122, 105, 101, 114, 40, 48, 46, 50, 53, 44, 32, 48, 46, 49, 44, 32, 48, 46, 50, 53, 44, 32, 49, 41]⟩ = al2 from rfl, al_2] at h
    exact h)
  have C3 : Hid (∀ w1, EW w1 → Calls Tryz.prog 12 #[.string ⟨#[115, 116, 101, 112, 115, 40, 48, 41]⟩] w1 fun e w' => BadR w1 e w') := Lib.hid (fun w1 h1 => by
    have h := k12 ⟨#[115, 116, 101, 112, 115, 40, 48, 41]⟩ w1 h1
    rw [show bl ⟨#[115, 116, 101, 112, 115, 40, 48, 41]⟩ = al3 from rfl, al_3] at h
    exact h)
  have HW := Lib.hid he
  have AU := Lib.hid al_u
  clear he
  go_enter Tryz.func11, Tryz.ntmps11
  go_upto_region 2 with (go_at_call 12; refine C1.out.mono ?_; rintro e w1 ⟨b1, rfl, h1⟩; have H1 := Lib.hid h1; clear h1)
  have W1 := Lib.hid (HW.out.below H1.out.2.2)
  go_upto_region 3 with (go_at_call 12; refine (C2.out _ W1.out).mono ?_; rintro e w2 ⟨b2, rfl, h2⟩; have H2 := Lib.hid h2; clear h2)
  have W2 := Lib.hid (W1.out.below H2.out.2.2)
  go_upto_region 4 with (go_at_call 12; refine (C3.out _ W2.out).mono ?_; rintro e w3 ⟨N3, rfl, h3⟩; have H3 := Lib.hid h3; clear h3)
  have Z1 : Hid (EzAt w3 b1 (.steps 3 2)) := Lib.hid ((H1.out.2.1.below H2.out.2.2).below H3.out.2.2.2.2)
  have Z2 : Hid (EzAt w3 b2 alC) := Lib.hid (H2.out.2.1.below H3.out.2.2.2.2)
  have BB : Hid (Below w.heap.size w w3) := Lib.hid ((H1.out.2.2.trans (H2.out.2.2.mono H1.out.2.2.size)).trans (H3.out.2.2.2.2.mono (Nat.le_trans H1.out.2.2.size H2.out.2.2.size)))
  have C13 := Lib.hid (k13 b1 _ w3 Z1.out)
  obtain ⟨PX, QX, eX, rX⟩ := al_X
  obtain ⟨PY, QY, eY, rY⟩ := al_Y
  obtain ⟨PZ, QZ, eZ, rZ⟩ := al_Z
  have CX := Lib.hid (fun (w4 : World) (h : EzAt w4 b2 alC) => rX b2 w4 h)
  have CY := Lib.hid (fun (w4 : World) (h : EzAt w4 b2 alC) => rY b2 w4 h)
  have CZ := Lib.hid (fun (w4 : World) (h : EzAt w4 b1 (.steps 3 2)) => rZ b1 w4 h)
  have EX := Lib.hid eX
  have EY := Lib.hid eY
  have EZ := Lib.hid eZ
  clear rX rY rZ eX eY eZ AU
  go_wp2_with (first
    | (go_at_call 13; refine C13.out.mono ?_; rintro e w4 ⟨⟨s4, rfl, hs4⟩, rfl⟩; have q4 := tl_true s4 [115, 116, 101, 112, 115, 40, 51, 44, 32, 106, 117, 109, 112, 45, 101, 110, 100, 41] (hs4.trans al_t); clear hs4)
    | (go_at_call 15; (with_reducible refine (CX.out _ Z2.out).mono ?_); rintro e w5 ⟨⟨r5, rfl, hr5⟩, hb5⟩; have q5 := (hr5.eq_ EX.out.1).trans EX.out.2; have B5 := Lib.hid hb5; clear hr5 hb5)
    | (go_at_call 15; (with_reducible refine (CY.out _ (Z2.out.below B5.out)).mono ?_); rintro e w6 ⟨⟨r6, rfl, hr6⟩, hb6⟩; have q6 := (hr6.eq_ EY.out.1).trans EY.out.2; have B6 := Lib.hid hb6; clear hr6 hb6)
    | (go_at_call 15; (with_reducible refine (CZ.out _ ((Z1.out.below B5.out).below B6.out)).mono ?_); rintro e w7 ⟨⟨r7, rfl, hr7⟩, hb7⟩; have q7 := (hr7.eq_ EZ.out.1).trans EZ.out.2; have B7 := Lib.hid hb7; clear hr7 hb7))
  go_ret
  refine ⟨rfl, ?_⟩
  have s3 := BB.out.size
  have s5 := B5.out.size
  have s6 := B6.out.size
  exact ((BB.out.trans (B5.out.mono s3)).trans (B6.out.mono (by omega))).trans (B7.out.mono (by omega))
end Go.Proofs.YtlgencbldbpbdaaGreatDoor

namespace Go.Proofs.YtlgencbldbpbdaaGreatDoor
open Go.RowKit Fl
set_option maxRecDepth 100000 in
theorem c140 (r : Nat) (neg : Bool) (w : World) (h : r < 9223372036854775808) : Calls Tryz.prog 97 #[.bool neg, .int .u64 r] w fun e w' => e = .returned (.float .f64 (word neg r)) ∧ w = w' := by
  have h1 := b_or r h
  clear h
  cases neg
  all_goals
    go_enter Tryz.func97, Tryz.ntmps97
    go_wp2
    go_ret
    exact ⟨rfl, rfl⟩
set_option maxRecDepth 100000 in
theorem c182 (m : Nat) (w : World) (h : U m) : Calls Tryz.prog 155 #[.int .u64 m] w fun e w' => e = .returned (.int .i64 (blen m)) ∧ w = w' := by
  have hb : blen m ≤ 64 := blen_lt m 64 h
  go_enter Tryz.func155, Tryz.ntmps155
  go_wp2
  go_loop [0, 3] (fun t n => ∃ q k : Nat, k ≤ 64 ∧ t = .int .u64 q ∧ n = .int .i64 k ∧ Hid (k + blen q = blen m)) (fun t _ => (intOf t).toNat)
  case atStart => exact ⟨m, 0, by omega, rfl, rfl, Lib.hid (by omega)⟩
  case round =>
    obtain ⟨q, k, hk, rfl, rfl, he⟩ := hrel
    by_cases hq : 0 < q
    · have hh := blen_half q hq
      have he' := he.out
      have hk' : k ≤ 63 := by omega
      have H : Hid (k + 1 + blen (q / 2) = blen m) := Lib.hid (by omega)
      clear hh he' he hb
      go_wp2
      go_round
      case rel => exact ⟨q / 2, k + 1, by omega, by go_num, by go_num, H⟩
      case measure => simp [intOf]; omega
    · have hq0 : q = 0 := by omega
      subst hq0
      have he' := he.out
      have hz : blen 0 = 0 := rfl
      have H := Lib.hid (show k = blen m by omega)
      clear he' hz he
      go_wp2
      go_ret
      exact ⟨ret_int (by rw [H.out]), rfl⟩
set_option maxRecDepth 100000 in
theorem c151a (m s : Nat) (w : World) (h : U m) (h1 : 1 ≤ s) (h2 : s < 64) : Calls Tryz.prog 53 #[.int .u64 m, .int .i64 s] w fun e w' => e = .returned (.int .u64 (rhe m (2 ^ s))) ∧ w = w' := by
  have hg := two_half s h1
  have hr : rhe m (2 ^ s) = m / 2 ^ s + (if 2 ^ s < 2 * (m % 2 ^ s) ∨ (2 ^ s = 2 * (m % 2 ^ s) ∧ m / 2 ^ s % 2 = 1) then 1 else 0) := rfl
  have e3 := dr3 m s
  have e1 := dr1 m s h
  have e2 := dr2 (s - 1) (by omega)
  have e4 := dr4 (m / 2 ^ s)
  have e5 := dr5 m s h h1
  rw [hr]
  clear hr
  generalize m / 2 ^ s = q at *
  generalize m % 2 ^ s = r at *
  rw [hg]
  clear hg
  generalize 2 ^ (s - 1) = H at *
  by_cases c1 : H < r
  · have d1 : ((H : Int) < (r : Int)) := by omega
    rw [if_pos (by omega)]
    clear e4
    go_enter Tryz.func53, Tryz.ntmps53
    go_wp2
    go_ret
    exact ⟨ret_int (by omega), rfl⟩
  · by_cases c3 : r = H
    · by_cases c2 : q % 2 = 1
      · rw [if_pos (by omega)]
        rw [decide_eq_true c2] at e4
        subst c3
        clear c2
        go_enter Tryz.func53, Tryz.ntmps53
        go_wp2
        go_ret
        exact ⟨ret_int (by omega), rfl⟩
      · rw [if_neg (by omega)]
        rw [decide_eq_false c2] at e4
        subst c3
        clear c2 e5
        go_enter Tryz.func53, Tryz.ntmps53
        go_wp2
        go_ret
        exact ⟨rfl, rfl⟩
    · rw [if_neg (by omega)]
      have d1 : ¬ ((H : Int) < (r : Int)) := by omega
      have d2 : ((r : Int) == (H : Int)) = false := by simp; omega
      have d4 : ¬ ((r : Int) = (H : Int)) := by omega
      clear e5 e4
      go_enter Tryz.func53, Tryz.ntmps53
      go_wp2
      go_ret
      exact ⟨rfl, rfl⟩
set_option maxRecDepth 100000 in
theorem c151b (m : Nat) (w : World) (h : U m) : Calls Tryz.prog 53 #[.int .u64 m, .int .i64 64] w fun e w' => e = .returned (.int .u64 (rhe m (2 ^ 64))) ∧ w = w' := by
  have hm := h.lt
  by_cases c : 9223372036854775808 < m
  · have hr : rhe m (2 ^ 64) = 1 := by
      unfold rhe
      rw [Nat.div_eq_of_lt hm, Nat.mod_eq_of_lt hm, if_pos (by omega)]
    have d : (9223372036854775808 : Int) < (m : Int) := by omega
    rw [hr]
    clear hr hm c
    go_enter Tryz.func53, Tryz.ntmps53
    go_wp2
    go_ret
    exact ⟨rfl, rfl⟩
  · have hr : rhe m (2 ^ 64) = 0 := by
      unfold rhe
      rw [Nat.div_eq_of_lt hm, Nat.mod_eq_of_lt hm, if_neg (by omega)]
    have d : ¬ (9223372036854775808 : Int) < (m : Int) := by omega
    rw [hr]
    clear hr hm c
    by_cases c2 : m = 9223372036854775808
    · subst c2
      go_enter Tryz.func53, Tryz.ntmps53
      go_wp2
      go_ret
      exact ⟨rfl, rfl⟩
    · have d2 : ((m : Int) == 9223372036854775808) = false := by simp; omega
      go_enter Tryz.func53, Tryz.ntmps53
      go_wp2
      go_ret
      exact ⟨rfl, rfl⟩
set_option maxRecDepth 100000 in
theorem c151c (m : Nat) (s : Int) (w : World) (h : U m) (h1 : 64 < s) : Calls Tryz.prog 53 #[.int .u64 m, .int .i64 s] w fun e w' => e = .returned (.int .u64 (rhe m (2 ^ s.toNat))) ∧ w = w' := by
  have hr : rhe m (2 ^ s.toNat) = 0 := by
    refine rhe_small _ _ ?_
    have hm := h.lt
    have : 2 ^ 65 ≤ 2 ^ s.toNat := Nat.pow_le_pow_right (by omega) (by omega)
    generalize 2 ^ s.toNat = t at *
    omega
  rw [hr]
  clear hr
  go_enter Tryz.func53, Tryz.ntmps53
  go_wp2
  go_ret
  exact ⟨rfl, rfl⟩
/-- Drop: m / 2^s to the nearest. -/
theorem c151 (m : Nat) (s : Int) (w : World) (h : U m) (h1 : 1 ≤ s) : Calls Tryz.prog 53 #[.int .u64 m, .int .i64 s] w fun e w' => e = .returned (.int .u64 (rhe m (2 ^ s.toNat))) ∧ w = w' := by
  rcases Int.lt_trichotomy s 64 with c | c | c
  · obtain ⟨k, rfl⟩ := Int.eq_ofNat_of_zero_le (show 0 ≤ s by omega)
    rw [Int.toNat_natCast]
    exact c151a m k w h (by omega) (by omega)
  · subst c; exact c151b m w h
  · exact c151c m s w h c
set_option maxRecDepth 100000 in
theorem c150 (m : Nat) (p : Int) (w : World) (h : U m) (h0 : 0 < m) (h1 : -6000 ≤ p) (h2 : p ≤ 6000) :
    Calls Tryz.prog 98 #[.int .u64 m, .int .i64 p, .int .i64 53, .int .i64 (-1074)] w fun e w' => NearP m p e ∧ w = w' := by
  have hb : blen m ≤ 64 := blen_lt m 64 h
  have hbp := blen_pos m h0
  obtain ⟨n1, n2, n3⟩ := near_core m p h0 (max ((blen m : Int) + p - 53) (-1074)) (by rw [hbp])
  rw [show (2 ^ 52 : Nat) = 4503599627370496 from by decide] at n1 n2 n3
  clear hbp
  have lo : -1074 ≤ max ((blen m : Int) + p - 53) (-1074) := by omega
  have hi : max ((blen m : Int) + p - 53) (-1074) ≤ 6020 := by omega
  by_cases c : max ((blen m : Int) + p - 53) (-1074) ≤ p
  · rw [show (max ((blen m : Int) + p - 53) (-1074) - p).toNat = 0 by omega, Nat.pow_zero, rhe_one] at n1 n2 n3
    have hq := near_shl m p h0 c
    have e1 := shl_near m _ hq
    have N1 := Lib.hid n1
    clear n1 n2
    go_enter Tryz.func98, Tryz.ntmps98
    go_wp2_with (go_at_call 155; refine (c182 _ _ (by assumption)).mono ?_; rintro e w' ⟨rfl, rfl⟩)
    go_ret2
    exact ⟨nearP_mk _ _ _ _ lo (by omega) hq n3 N1.out, rfl⟩
  · have hs : 1 ≤ max ((blen m : Int) + p - 53) (-1074) - p := by omega
    rw [show (p - max ((blen m : Int) + p - 53) (-1074)).toNat = 0 by omega, Nat.pow_zero, Nat.mul_one] at n1 n2 n3
    by_cases c2 : rhe m (2 ^ (max ((blen m : Int) + p - 53) (-1074) - p).toNat) = 9007199254740992
    · rw [c2] at n1
      have hfin : NearP m p (.returned (.tuple #[.int .u64 4503599627370496, .int .i64 (max ((blen m : Int) + p - 53) (-1074) + 1)])) :=
        nearP_mk m p 4503599627370496 _ (by omega) (by omega) (by decide) (.inr (Nat.le_refl _)) (near_carry _ _ lo n1)
      have N1 := Lib.hid hfin
      have e2 : ((rhe m (2 ^ (max ((blen m : Int) + p - 53) (-1074) - p).toNat) : Nat) : Int) = 9007199254740992 := by omega
      clear n1 n2 n3 hfin c2
      go_enter Tryz.func98, Tryz.ntmps98
      go_wp2_with (first | (go_at_call 155; refine (c182 _ _ (by assumption)).mono ?_; rintro e w' ⟨rfl, rfl⟩) | (go_at_call 53; refine (c151 _ _ _ (by assumption) (by omega)).mono ?_; rintro e w' ⟨rfl, rfl⟩))
      go_ret2
      exact ⟨N1.out, rfl⟩
    · have e2 : (((rhe m (2 ^ (max ((blen m : Int) + p - 53) (-1074) - p).toNat) : Nat) : Int) == 9007199254740992) = false := by simp; omega
      have hfin := nearP_mk m p (rhe m (2 ^ (max ((blen m : Int) + p - 53) (-1074) - p).toNat)) _ lo (by omega) (by omega) n3 n1
      have N1 := Lib.hid hfin
      clear n1 n2 n3 hfin c2
      go_enter Tryz.func98, Tryz.ntmps98
      go_wp2_with (first | (go_at_call 155; refine (c182 _ _ (by assumption)).mono ?_; rintro e w' ⟨rfl, rfl⟩) | (go_at_call 53; refine (c151 _ _ _ (by assumption) (by omega)).mono ?_; rintro e w' ⟨rfl, rfl⟩))
      go_ret2
      exact ⟨N1.out, rfl⟩
set_option maxRecDepth 100000 in
theorem c141 (neg : Bool) (m : Nat) (p : Int) (w : World) (h : U m) : Calls Tryz.prog 52 #[.bool neg, .int .u64 m, .int .i64 p] w fun e w' => e = .returned (.float .f64 (nearW neg m p)) ∧ w = w' := by
  by_cases h0 : m = 0
  · subst h0
    have e : nearW neg 0 p = word neg 0 := by unfold nearW; rw [near_zero]; rfl
    rw [e]
    go_enter Tryz.func52, Tryz.ntmps52
    go_wp2_with (go_at_call 97; refine (c140 0 _ _ (by decide)).mono ?_; rintro e w' ⟨rfl, rfl⟩)
    go_ret
    exact ⟨rfl, rfl⟩
  have hm0 : ((m : Int) == 0) = false := by simp; omega
  by_cases c1 : p < -6000
  · have e : nearW neg m p = word neg 0 := by unfold nearW; rw [near_small m p h (by omega)]; rfl
    rw [e]
    go_enter Tryz.func52, Tryz.ntmps52
    go_wp2_with (go_at_call 97; refine (c140 0 _ _ (by decide)).mono ?_; rintro e w' ⟨rfl, rfl⟩)
    go_ret
    exact ⟨rfl, rfl⟩
  by_cases c2 : 6000 < p
  · have e : nearW neg m p = word neg 9218868437227405312 := by
      have := near_great m p (by omega) (by omega)
      unfold nearW; rw [Nat.min_eq_right this]; rfl
    rw [e]
    go_enter Tryz.func52, Tryz.ntmps52
    go_wp2_with (go_at_call 97; refine (c140 9218868437227405312 _ _ (by decide)).mono ?_; rintro e w' ⟨rfl, rfl⟩)
    go_ret
    exact ⟨rfl, rfl⟩
  unfold nearW
  go_enter Tryz.func52, Tryz.ntmps52
  go_wp2_with (go_at_call 98; fail)
  refine (c150 m p _ h (by omega) (by omega) (by omega)).mono ?_
  rintro e w' ⟨⟨q, K, rfl, hq, hK, hn, hk⟩, rfl⟩
  by_cases d1 : q < 4503599627370496
  · have hK0 : K = 0 := by omega
    subst hK0
    have H : Hid (min (near m p) INF = q) := by
      have : min (near m p) INF = q := by unfold INF; omega
      exact Lib.hid this
    have d1' : (q : Int) < 4503599627370496 := by omega
    have hql : q < 9223372036854775808 := by omega
    have HL := Lib.hid hql
    clear hn hK hq d1 hk hql
    go_wp2_with (go_at_call 97; refine (c140 q _ _ HL.out).mono ?_; rintro e w' ⟨rfl, rfl⟩)
    go_ret
    exact ⟨ret_float (by rw [H.out]), rfl⟩
  · by_cases d2 : 2045 < K
    · have H : Hid (min (near m p) INF = 9218868437227405312) := by
        have : min (near m p) INF = 9218868437227405312 := by unfold INF; omega
        exact Lib.hid this
      have d1' : decide ((q : Int) < 4503599627370496) = false := by simp; omega
      have d2' : decide ((971 : Int) < (K : Int) - 1074) = true := by simp; omega
      clear hn hK hq d1 d2 hk
      go_wp2_with (go_at_call 97; refine (c140 9218868437227405312 _ _ (by decide)).mono ?_; rintro e w' ⟨rfl, rfl⟩)
      go_ret
      exact ⟨ret_float (by rw [H.out]), rfl⟩
    · have H : Hid (min (near m p) INF = K * 4503599627370496 + q) := by
        have : min (near m p) INF = K * 4503599627370496 + q := by unfold INF; omega
        exact Lib.hid this
      have hb := b_join K q (by omega) (by omega) hq
      have hl : K * 4503599627370496 + q < 9223372036854775808 := by omega
      have d1' : decide ((q : Int) < 4503599627370496) = false := by simp; omega
      have d2' : decide ((971 : Int) < (K : Int) - 1074) = false := by simp; omega
      have d3' : (K : Int) ≤ 2045 := by omega
      generalize K * 4503599627370496 + q = R at *
      have HL := Lib.hid hl
      clear hn hK hq d1 d2 hk hl
      go_wp2_with (go_at_call 97; refine (c140 R _ _ HL.out).mono ?_; rintro e w' ⟨rfl, rfl⟩)
      go_ret
      exact ⟨ret_float (by rw [H.out]), rfl⟩
set_option maxRecDepth 100000 in
set_option maxHeartbeats 1000000 in
theorem c31 (x : Nat) (w : World) (hx : U x) : Calls Tryz.prog 51 #[.float .f64 x] w fun e w' => e = .returned (partsV x) ∧ Below w.heap.size w w' := by
  have h1 := sgn_ne x hx
  have h2 := b_frac x hx
  have h3 := b_exp x hx
  have hm : fM x < 4503599627370496 := Nat.mod_lt _ (by decide)
  have he : eM x < 2048 := Nat.mod_lt _ (by decide)
  have h4 := b_or52 (fM x) hm
  have h5 : wrap64 (eM x : Int) = (eM x : Int) := by unfold wrap64; omega
  change bits .and .u64 (x : Int) 4503599627370495 = (fM x : Int) at h2
  change bits .and .u64 ((x : Int) / 4503599627370496) 2047 = (eM x : Int) at h3
  unfold partsV pNeg pCls pMant pExp
  generalize eM x = E at *
  generalize fM x = M at *
  generalize sg x = S at *
  by_cases cE : E = 2047
  · subst cE
    by_cases cM : M = 0
    · subst cM
      go_enter Tryz.func51, Tryz.ntmps51
      go_wp2
      exact bodyPost_ret (v := .agg #[.bool S, .int .i64 3, .int .u64 0, .int .i64 0]) (by simp [results, Tryz.results51, go_sem]) rfl ⟨rfl, (Below.refl _ _).alloc (Nat.le_refl _) _⟩
    · have d1 : (0 : Int) < (M : Int) := by omega
      simp only [cM, if_true, if_false, ne_eq, not_false_iff, and_self]
      go_enter Tryz.func51, Tryz.ntmps51
      go_wp2
      exact bodyPost_ret (v := .agg #[.bool false, .int .i64 4, .int .u64 0, .int .i64 0]) (by simp [results, Tryz.results51, go_sem]) rfl ⟨rfl, (Below.refl _ _).alloc (Nat.le_refl _) _⟩
  · have d0 : ((E : Int) == 2047) = false := by simp; omega
    simp only [cE, if_false, false_and]
    by_cases cE0 : E = 0
    · subst cE0
      by_cases cM : M = 0
      · subst cM
        go_enter Tryz.func51, Tryz.ntmps51
        go_wp2
        exact bodyPost_ret (v := .agg #[.bool S, .int .i64 0, .int .u64 0, .int .i64 0]) (by simp [results, Tryz.results51, go_sem]) rfl ⟨rfl, (Below.refl _ _).alloc (Nat.le_refl _) _⟩
      · have d1 : ((M : Int) == 0) = false := by simp; omega
        simp only [cM, if_true, if_false]
        go_enter Tryz.func51, Tryz.ntmps51
        go_wp2
        exact bodyPost_ret (v := .agg #[.bool S, .int .i64 1, .int .u64 M, .int .i64 (-1074)]) (by simp [results, Tryz.results51, go_sem]) rfl ⟨rfl, (Below.refl _ _).alloc (Nat.le_refl _) _⟩
    · have d1 : ((E : Int) == 0) = false := by simp; omega
      simp only [cE0, if_false]
      go_enter Tryz.func51, Tryz.ntmps51
      go_wp2
      exact bodyPost_ret (v := .agg #[.bool S, .int .i64 2, .int .u64 (4503599627370496 + (M : Int)), .int .i64 ((E : Int) - 1075)]) (by simp [results, Tryz.results51, go_sem]) rfl ⟨by simp, (Below.refl _ _).alloc (Nat.le_refl _) _⟩
/-! a number from 0 on, by its parts -/
theorem rg_div (x : Nat) (hx : U x) : rg x / 4503599627370496 = eM x ∧ rg x % 4503599627370496 = fM x := by
  have := hx.lt
  unfold rg eM fM
  omega
theorem parts_val (x : Nat) (hx : U x) (hf : rg x < INF) : V (rg x) = pMant x * 2 ^ (pExp x + 1074).toNat := by
  obtain ⟨h1, h2⟩ := rg_div x hx
  have he : eM x < 2047 := by
    rw [← h1]; unfold INF at hf; omega
  have hne : ¬ eM x = 2047 := by omega
  have hge : ¬ eM x = 0 → ¬ rg x < 4503599627370496 := fun h => by omega
  have hlt : eM x = 0 → rg x < 4503599627370496 := fun h => by omega
  unfold pMant pExp
  rw [if_neg hne, if_neg hne]
  show Fl.val 52 (rg x) = _
  unfold Fl.val
  rw [show (2 : Nat) ^ 52 = 4503599627370496 from by decide, h1, h2]
  by_cases h0 : eM x = 0
  · rw [if_pos h0, if_pos h0, if_pos (hlt h0)]
    have e : rg x = fM x := by omega
    rw [e]
    by_cases hm : fM x = 0
    · rw [if_pos hm, hm, Nat.zero_mul]
    · rw [if_neg hm, show ((-1074 : Int) + 1074).toNat = 0 from rfl, Nat.pow_zero, Nat.mul_one]
  · rw [if_neg h0, if_neg h0, if_neg (hge h0)]
    rw [show ((eM x : Int) - 1075 + 1074).toNat = eM x - 1 by omega]
theorem parts_kind (x : Nat) (hf : rg x < INF) (hx : U x) : (pCls x = 0 ∧ pMant x = 0 ∧ pExp x = 0) ∨ ((pCls x = 1 ∨ pCls x = 2) ∧ 0 < pMant x ∧ pMant x < 9007199254740992 ∧ -1074 ≤ pExp x ∧ pExp x ≤ 971 ∧ pNeg x = sg x) := by
  obtain ⟨h1, h2⟩ := rg_div x hx
  have he : eM x < 2047 := by
    rw [← h1]; unfold INF at hf; omega
  have hm : fM x < 4503599627370496 := Nat.mod_lt _ (by decide)
  unfold pCls pMant pExp pNeg
  rw [if_neg (show ¬ eM x = 2047 by omega), if_neg (show ¬ eM x = 2047 by omega), if_neg (show ¬ eM x = 2047 by omega), if_neg (show ¬ (eM x = 2047 ∧ fM x ≠ 0) by omega)]
  by_cases h0 : eM x = 0
  · rw [if_pos h0, if_pos h0, if_pos h0]
    by_cases hz : fM x = 0
    · rw [if_pos hz, if_pos hz]
      exact .inl ⟨rfl, hz, rfl⟩
    · rw [if_neg hz, if_neg hz]
      exact .inr ⟨.inl rfl, by omega, by omega, by omega, by omega, rfl⟩
  · rw [if_neg h0, if_neg h0, if_neg h0]
    exact .inr ⟨.inr rfl, by omega, by omega, by omega, by omega, rfl⟩
theorem U_pMant (x : Nat) (hf : rg x < INF) (hx : U x) : U (pMant x) := by
  unfold U
  rcases parts_kind x hf hx with ⟨-, h, -⟩ | ⟨-, -, h, -⟩ <;> omega
/-- a word whose place is that of a number from 0 on -/
theorem pu_word {x Y : Nat} (hx : U x) (h : PU (pl x) Y) : rg x < INF ∧ V (rg x) = Y ∧ (0 < Y → sg x = false) := by
  obtain ⟨r, hr, hf, hp, hu⟩ := h
  have hn : isN r = false := fin_not_nan hf
  have hnx : isN x = false := by rw [isN_iff_pl, ← hp, ← isN_iff_pl]; exact hn
  have e := atW_pl x hx hnx
  have e2 := atW_pl r hr hn
  rw [← hp, e2] at e
  subst e
  refine ⟨of_decide_eq_true hf, ?_, fun h0 => ?_⟩
  · unfold un at hu
    show Fl.val 52 (rg r) = Y
    split at hu <;> omega
  · unfold un at hu
    cases hs : sg r
    · rfl
    · rw [hs, if_pos rfl] at hu; omega
theorem one_parts {e : Int} (h1 : e < 0) (h2 : -1074 ≤ e) : ONE = 2 ^ (-e).toNat * 2 ^ (e + 1074).toNat := by
  rw [← Nat.pow_add, one_pow]
  refine congrArg _ ?_
  have : K = 1074 := rfl
  omega
theorem nearW_pos {q : Nat} (h : q ≤ 9007199254740992) : RV (nearW false q 0) (iP q) := by
  have e : near q 0 = fi q := by
    unfold near fi rnd
    rw [show ((0 : Int) + 1074).toNat = K from rfl, show (-1074 - (0 : Int)).toNat = 0 from rfl, ← one_pow]
    have h1 := (fi_val q h).2
    unfold fi rnd at h1
    rw [Nat.min_eq_left]
    unfold INF at h1 ⊢
    omega
  have hl := (fi_val q h).2
  have e2 : nearW false q 0 = fi q := by
    unfold nearW
    rw [e, Nat.min_eq_left (by unfold INF; omega)]
    unfold word
    rw [if_neg (by decide)]
  rw [e2, ← fi_eq]
  exact fz_RV q
theorem q53 (m : Nat) (s : Int) (w : World) (n : Nat) (h : U m) (h1 : 1 ≤ s) : Calls Tryz.prog 53 #[.int .u64 m, .int .i64 s] (w.drewN n) fun e w' => e = .returned (.int .u64 (rhe m (2 ^ s.toNat))) ∧ ∃ m, w' = w.drewN m :=
  Calls.quiet_of_same ((c151 m s _ h h1).mono fun _ _ ⟨a, b⟩ => ⟨a, b.symm⟩)
theorem q52 (neg : Bool) (m : Nat) (p : Int) (w : World) (n : Nat) (h : U m) : Calls Tryz.prog 52 #[.bool neg, .int .u64 m, .int .i64 p] (w.drewN n) fun e w' => e = .returned (.float .f64 (nearW neg m p)) ∧ ∃ m, w' = w.drewN m :=
  Calls.quiet_of_same ((c141 neg m p _ h).mono fun _ _ ⟨a, b⟩ => ⟨a, b.symm⟩)
/-- the whole number that is near, the one below: of numbers from 0 on -/
def NearW (x Y : Nat) (g : Nat → Nat → Nat) (e : Ending) : Prop := ∃ r, e = .returned (.float .f64 r) ∧ U r ∧ PU (pl r) ((g Y ONE : Nat) * ONEi)
theorem rhe_whole {A B q : Nat} (hB : 0 < B) (h : A = q * B) : rhe A B = q := by rw [h]; exact rhe_exact q B hB
theorem up_parts {M Y : Nat} {E : Int} (hv : M * 2 ^ (E + 1074).toNat = Y) (h : 0 ≤ E) : Y = (M * 2 ^ E.toNat) * ONE := by
  rw [← hv, show (E + 1074).toNat = E.toNat + K by
    have : K = 1074 := rfl
    omega, Nat.pow_add, ← Nat.mul_assoc, one_pow]
theorem lo_parts {M Y : Nat} {E : Int} (hv : M * 2 ^ (E + 1074).toNat = Y) (h : E < 0) (h2 : -1074 ≤ E) : rhe Y ONE = rhe M (2 ^ (-E).toNat) ∧ Y / ONE = M / 2 ^ (-E).toNat := by
  have hp : 0 < 2 ^ (E + 1074).toNat := Nat.two_pow_pos _
  rw [one_parts h h2, ← hv]
  exact ⟨rhe_mul _ _ _ hp, Nat.mul_div_mul_right _ _ hp⟩
set_option maxRecDepth 100000 in
set_option maxHeartbeats 1000000 in
theorem c18 {x Y : Nat} (w : World) (hx : U x) (h : PU (pl x) Y) : Calls Tryz.prog 18 #[.float .f64 x] w fun e w' => NearW x Y rhe e ∧ Below w.heap.size w w' := by
  obtain ⟨hf, hv, hs⟩ := pu_word hx h
  have pv := parts_val x hx hf
  have pk := parts_kind x hf hx
  have pu := U_pMant x hf hx
  rw [pv] at hv
  have C51 := Lib.hid (c31 x w hx)
  unfold partsV at C51
  generalize pCls x = C at *
  generalize pMant x = M at *
  generalize pExp x = E at *
  obtain ⟨N, hN⟩ : ∃ N, N = pNeg x := ⟨_, rfl⟩
  rw [← hN] at C51 pk
  rcases pk with ⟨rfl, rfl, rfl⟩ | ⟨hC, m1, m2, e1, e2, hn⟩
  · have H : Hid (PU (pl x) ((rhe Y ONE : Nat) * ONEi)) := Lib.hid (by
      rw [Nat.zero_mul] at hv
      subst hv
      rw [rhe_whole (q := 0) one_pos' (by simp)]
      exact pu_shift h (by simp))
    clear h hf hv hs pv pu hN
    go_enter Tryz.func18, Tryz.ntmps18
    go_wp2_with (go_at_call 51; refine C51.out.mono ?_; rintro e w5 ⟨rfl, hb5⟩; have B5 := Lib.hid hb5; clear hb5)
    go_ret
    exact ⟨⟨x, rfl, hx, H.out⟩, B5.out.alloc (B5.out.size) _⟩
  by_cases c : 0 ≤ E
  · have H : Hid (PU (pl x) ((rhe Y ONE : Nat) * ONEi)) := Lib.hid (by
      have hy := up_parts hv c
      rw [rhe_whole one_pos' hy]
      exact pu_shift h (by rw [hy]; exact Int.natCast_mul _ _))
    clear h hf hv hs pv pu hN m1 m2 e1 e2 hn
    rcases hC with rfl | rfl
    all_goals
      go_enter Tryz.func18, Tryz.ntmps18
      go_wp2_with (go_at_call 51; refine C51.out.mono ?_; rintro e w5 ⟨rfl, hb5⟩; have B5 := Lib.hid hb5; clear hb5)
      go_ret
      exact ⟨⟨x, rfl, hx, H.out⟩, B5.out.alloc (B5.out.size) _⟩
  · have hN0 : N = false := by
      rw [hn]
      refine hs ?_
      rw [← hv]
      exact Nat.mul_pos m1 (Nat.two_pow_pos _)
    subst hN0
    obtain ⟨l1, -⟩ := lo_parts hv (by omega) e1
    have q1 : rhe M (2 ^ (-E).toNat) ≤ 9007199254740992 := by
      refine rhe_le_of _ _ _ (Nat.two_pow_pos _) ?_
      have : 1 ≤ 2 ^ (-E).toNat := Nat.two_pow_pos _
      exact Nat.le_trans (show M ≤ 1 * 9007199254740992 by omega) (Nat.mul_le_mul_right _ this)
    have hw := nearW_pos q1
    have H : Hid (U (nearW false (rhe M (2 ^ (-E).toNat)) 0) ∧ PU (pl (nearW false (rhe M (2 ^ (-E).toNat)) 0)) ((rhe Y ONE : Nat) * ONEi)) := Lib.hid ⟨hw.1, by rw [hw.2, l1]; exact iP_nat _ q1⟩
    have UQ : U (rhe M (2 ^ (-E).toNat)) := by unfold U; omega
    have hc : ¬ E ≥ 0 := c
    have hE : 1 ≤ -E := by omega
    clear h hf hv hs pv hN m1 m2 hn l1 q1 hw c
    rcases hC with rfl | rfl
    all_goals
      go_enter Tryz.func18, Tryz.ntmps18
      go_upto_region 4 with (go_at_call 51; refine C51.out.mono ?_; rintro e w5 ⟨rfl, hb5⟩; have B5 := Lib.hid hb5; clear hb5)
      go_quiet (first
        | (go_at_call 53; exact q53 _ _ _ _ pu hE)
        | (go_at_call 52; exact q52 _ _ _ _ _ UQ))
      go_wp2
      go_ret
      exact ⟨⟨_, rfl, H.out⟩, Bdn (B5.out.alloc (B5.out.size) _) _⟩
set_option maxRecDepth 100000 in
set_option maxHeartbeats 1000000 in
theorem c19 {x Y : Nat} (w : World) (hx : U x) (h : PU (pl x) Y) : Calls Tryz.prog 19 #[.float .f64 x] w fun e w' => NearW x Y (fun a b => a / b) e ∧ Below w.heap.size w w' := by
  obtain ⟨hf, hv, hs⟩ := pu_word hx h
  have pv := parts_val x hx hf
  have pk := parts_kind x hf hx
  have pu := U_pMant x hf hx
  rw [pv] at hv
  have C51 := Lib.hid (c31 x w hx)
  unfold partsV at C51
  generalize pCls x = C at *
  generalize pMant x = M at *
  generalize pExp x = E at *
  obtain ⟨N, hN⟩ : ∃ N, N = pNeg x := ⟨_, rfl⟩
  rw [← hN] at C51 pk
  rcases pk with ⟨rfl, rfl, rfl⟩ | ⟨hC, m1, m2, e1, e2, hn⟩
  · have H : Hid (PU (pl x) ((Y / ONE : Nat) * ONEi)) := Lib.hid (by
      rw [Nat.zero_mul] at hv
      subst hv
      rw [Nat.zero_div]
      exact pu_shift h (by simp))
    clear h hf hv hs pv pu hN
    go_enter Tryz.func19, Tryz.ntmps19
    go_wp2_with (go_at_call 51; refine C51.out.mono ?_; rintro e w5 ⟨rfl, hb5⟩; have B5 := Lib.hid hb5; clear hb5)
    go_ret
    exact ⟨⟨x, rfl, hx, H.out⟩, B5.out.alloc (B5.out.size) _⟩
  by_cases c : 0 ≤ E
  · have H : Hid (PU (pl x) ((Y / ONE : Nat) * ONEi)) := Lib.hid (by
      have hy := up_parts hv c
      rw [show Y / ONE = M * 2 ^ E.toNat by rw [hy]; exact Nat.mul_div_cancel _ one_pos']
      exact pu_shift h (by rw [hy]; exact Int.natCast_mul _ _))
    clear h hf hv hs pv pu hN m1 m2 e1 e2 hn
    rcases hC with rfl | rfl
    all_goals
      go_enter Tryz.func19, Tryz.ntmps19
      go_wp2_with (go_at_call 51; refine C51.out.mono ?_; rintro e w5 ⟨rfl, hb5⟩; have B5 := Lib.hid hb5; clear hb5)
      go_ret
      exact ⟨⟨x, rfl, hx, H.out⟩, B5.out.alloc (B5.out.size) _⟩
  · have hN0 : N = false := by
      rw [hn]
      refine hs ?_
      rw [← hv]
      exact Nat.mul_pos m1 (Nat.two_pow_pos _)
    subst hN0
    obtain ⟨s, hs'⟩ : ∃ s : Nat, E = -(s : Int) := ⟨(-E).toNat, by omega⟩
    subst hs'
    obtain ⟨-, l1⟩ := lo_parts hv (by omega) e1
    rw [show (-(-(s : Int))).toNat = s by omega] at l1
    have q1 : M / 2 ^ s ≤ 9007199254740992 := Nat.le_trans (Nat.div_le_self _ _) (by omega)
    have hw := nearW_pos q1
    have H : Hid (U (nearW false (M / 2 ^ s) 0) ∧ PU (pl (nearW false (M / 2 ^ s) 0)) ((Y / ONE : Nat) * ONEi)) := Lib.hid ⟨hw.1, by rw [hw.2, l1]; exact iP_nat _ q1⟩
    have UQ : U (M / 2 ^ s) := by unfold U; omega
    have hc : ¬ (-(s : Int)) ≥ 0 := c
    by_cases c2 : s < 64
    · have d0 := dr3 M s
      have d1 := dr1 M s pu
      have d3 : (-(s : Int)) > -64 := by omega
      have d4 : ¬ (s : Int) < 0 := by omega
      have C52 := Lib.hid (fun (w1 : World) => c141 false (M / 2 ^ s) 0 w1 UQ)
      clear h hf hv hs pv hN m1 m2 hn l1 q1 hw c
      generalize M / 2 ^ s = q at *
      generalize M % 2 ^ s = r at *
      rcases hC with rfl | rfl
      all_goals
        go_enter Tryz.func19, Tryz.ntmps19
        go_upto_region 8 with (go_at_call 51; refine C51.out.mono ?_; rintro e w5 ⟨rfl, hb5⟩; have B5 := Lib.hid hb5; clear hb5)
        go_quiet (fail)
        go_wp2_with (go_at_call 52; refine (C52.out _).mono ?_; rintro e w6 ⟨rfl, rfl⟩)
        go_ret
        exact ⟨⟨_, rfl, H.out⟩, Bdn (B5.out.alloc (B5.out.size) _) _⟩
    · have z0 : M / 2 ^ s = 0 := by
        refine Nat.div_eq_of_lt (Nat.lt_of_lt_of_le m2 ?_)
        exact Nat.le_trans (show (9007199254740992 : Nat) ≤ 2 ^ 64 by decide) (Nat.pow_le_pow_right (by decide) (by omega))
      rw [z0] at H UQ
      have C52 := Lib.hid (fun (w1 : World) => c141 false 0 0 w1 UQ)
      have d3 : ¬ (-(s : Int)) > -64 := by omega
      clear h hf hv hs pv hN m1 m2 hn l1 q1 hw c
      rcases hC with rfl | rfl
      all_goals
        go_enter Tryz.func19, Tryz.ntmps19
        go_upto_region 8 with (go_at_call 51; refine C51.out.mono ?_; rintro e w5 ⟨rfl, hb5⟩; have B5 := Lib.hid hb5; clear hb5)
        go_wp2_with (go_at_call 52; refine (C52.out _).mono ?_; rintro e w6 ⟨rfl, rfl⟩)
        go_ret
        exact ⟨⟨_, rfl, H.out⟩, B5.out.alloc (B5.out.size) _⟩
end Go.Proofs.YtlgencbldbpbdaaGreatDoor

namespace Go.Proofs.YtlgencbldbpbdaaGreatDoor
open Go.RowKit Fl
/-- a number from 0 to 1 -/
theorem pu_unit {x : Nat} (hx : U x) (h0 : fleP 0 (pl x) = true) (h1 : fleP (pl x) (iP 1) = true) : ∃ X : Nat, PU (pl x) X ∧ X ≤ ONE := by
  have hn : isN x = false := by
    cases h : isN x
    · rfl
    · rw [pl_nan h] at h0
      revert h0; decide +kernel
  have hf : fin x = true := by
    refine decide_eq_true ?_
    have hr := rg_lt x
    refine Nat.lt_of_not_le fun c => ?_
    have e : rg x = INF := by
      have h2 : ¬ INF < rg x := fun c2 => by
        have : isN x = true := decide_eq_true c2
        rw [hn] at this; cases this
      omega
    cases hs : sg x
    · rw [pl_pos hn hs, e] at h1
      revert h1; decide +kernel
    · rw [pl_neg hn hs, e] at h0
      revert h0; decide +kernel
  have hp : PU (pl x) (un x) := ⟨x, hx, hf, rfl, rfl⟩
  rw [PU.zero.le hp] at h0
  rw [hp.le iP_one] at h1
  have a := of_decide_eq_true h0
  have b := of_decide_eq_true h1
  refine ⟨(un x).toNat, pu_shift hp (by omega), ?_⟩
  rw [Int.one_mul] at b
  unfold ONEi at b
  omega
theorem at_steps {x : Int} {X : Nat} (hx : PU x X) (n j : Nat) (b : Bool) : atP (.steps n j) x b = stepsP n j x b := by
  unfold atP
  obtain ⟨r, -, -, -, -, -, h⟩ := hx.skey
  rw [if_neg h]
/-- the jumps as the law names them -/
def jS (j : Nat) : ByteArray := if j = 0 then ⟨#[106, 117, 109, 112, 45, 115, 116, 97, 114, 116]⟩ else if j = 1 then ⟨#[106, 117, 109, 112, 45, 101, 110, 100]⟩ else if j = 2 then ⟨#[106, 117, 109, 112, 45, 110, 111, 110, 101]⟩ else ⟨#[106, 117, 109, 112, 45, 98, 111, 116, 104]⟩
theorem jS_bl (j : Nat) (h : j < 4) : bl (jS j) = jName (j + 1) ∧ (jS j).size ≤ 10 := by
  have : j = 0 ∨ j = 1 ∨ j = 2 ∨ j = 3 := by omega
  rcases this with rfl | rfl | rfl | rfl <;> exact ⟨rfl, by decide⟩
def jC : Array Value := #[.string ⟨#[106, 117, 109, 112, 45, 115, 116, 97, 114, 116]⟩, .string ⟨#[106, 117, 109, 112, 45, 101, 110, 100]⟩, .string ⟨#[106, 117, 109, 112, 45, 110, 111, 110, 101]⟩, .string ⟨#[106, 117, 109, 112, 45, 98, 111, 116, 104]⟩]
theorem jC_get (j : Nat) (h : j < 4) : jC[j]? = some (.string (jS j)) := by
  have : j = 0 ∨ j = 1 ∨ j = 2 ∨ j = 3 := by omega
  rcases this with rfl | rfl | rfl | rfl <;> rfl
theorem bl_st (r s : ByteArray) (n j : Nat) (hr : bl r = dgs n) (hs : bl s = jName j) : bl (⟨#[115, 116, 101, 112, 115, 40]⟩ ++ r ++ ⟨#[44]⟩ ++ s ++ ⟨#[41]⟩) = aSteps ++ dgs n ++ (44 :: []) ++ jName j ++ [41] := by
  rw [bl_append, bl_append, bl_append, bl_append, hr, hs]
  rfl
theorem st_nums (m : Nat) : ∃ q n : Nat, (m : Int) % 999999998 = (q : Int) ∧ (2 : Int) + (q : Int) = (n : Int) ∧ 2 ≤ n ∧ n ≤ 999999999 :=
  ⟨m % 999999998, m % 999999998 + 2, by omega, by omega, by omega, by omega⟩
theorem st_four (m : Nat) : ∃ j : Nat, (m : Int) % 4 = (j : Int) ∧ j < 4 := ⟨m % 4, by omega, by omega⟩
set_option maxRecDepth 100000 in
set_option maxHeartbeats 4000000 in
theorem walkEaseSteps (n0 k0 : Int) (x y : Nat) (w : World) (he : EW w) (n1 : -9223372036854775808 ≤ n0) (n2 : n0 ≤ 9223372036854775807) (k1 : -9223372036854775808 ≤ k0) (k2 : k0 ≤ 9223372036854775807) (hx : U x) (hy : U y) : Calls Tryz.prog 5 #[.int .i64 n0, .int .i64 k0, .float .f64 x, .float .f64 y] w fun e w' => e = .returned (.bool true) ∧ Below w.heap.size w w' := by
  have C11 := Lib.hid (k11 w he)
  have HW := Lib.hid he
  have UX := Lib.hid (And.intro hx hy)
  obtain ⟨m, hm, en⟩ : ∃ m : Nat, m < 9223372036854775808 ∧ ((n0 = (m : Int)) ∨ (n0 < 0 ∧ wrap64 (n0 + 1) = -(m : Int))) := by
    by_cases c : n0 < 0
    · exact ⟨(-(n0 + 1)).toNat, by omega, .inr ⟨c, by unfold wrap64; omega⟩⟩
    · exact ⟨n0.toNat, by omega, .inl (by omega)⟩
  obtain ⟨i, hi, ek⟩ : ∃ m : Nat, m < 9223372036854775808 ∧ ((k0 = (m : Int)) ∨ (k0 < 0 ∧ wrap64 (k0 + 1) = -(m : Int))) := by
    by_cases c : k0 < 0
    · exact ⟨(-(k0 + 1)).toNat, by omega, .inr ⟨c, by unfold wrap64; omega⟩⟩
    · exact ⟨k0.toNat, by omega, .inl (by omega)⟩
  have w1 : wrap64 (m : Int) = (m : Int) := by unfold wrap64; omega
  have w2 : wrap64 (i : Int) = (i : Int) := by unfold wrap64; omega
  have m0 : ¬ (m : Int) < 0 := Int.not_lt.2 (Int.natCast_nonneg m)
  have i0 : ¬ (i : Int) < 0 := Int.not_lt.2 (Int.natCast_nonneg i)
  obtain ⟨q, n, m3, n3, na, nb⟩ := st_nums m
  obtain ⟨j, i3, jl⟩ := st_four i
  have NN := Lib.hid (And.intro na (And.intro nb jl))
  have EN := Lib.hid en
  have EK := Lib.hid ek
  clear n1 n2 k1 k2 he hx hy hm hi en ek na nb jl
  go_enter Tryz.func5, Tryz.ntmps5
  go_upto_if 24 with (go_at_call 11; refine C11.out.mono ?_; rintro e w5 ⟨rfl, hb5⟩; have B5 := Lib.hid hb5; clear hb5)
  go_cut [0] (fun a wx => a = .int .i64 (m : Int) ∧ wx = w5)
  case first =>
    rcases EN.out with rfl | ⟨n0, e1⟩
    · go_wp2_with fail
      go_meet
      exact ⟨rfl, rfl⟩
    · go_wp2_with fail
      go_meet
      exact ⟨by first | rw [w1] | rw [w2], rfl⟩
  case rest =>
  obtain ⟨rfl, rfl⟩ := hcut
  go_upto_if 29 with fail
  go_cut [1] (fun a wx => a = .int .i64 (i : Int) ∧ wx = wc)
  case first =>
    rcases EK.out with rfl | ⟨n0, e1⟩
    · go_wp2_with fail
      go_meet
      exact ⟨rfl, rfl⟩
    · go_wp2_with fail
      go_meet
      exact ⟨by first | rw [w1] | rw [w2], rfl⟩
  case rest =>
  obtain ⟨rfl, hw⟩ := hcut
  subst hw
  go_upto_region 9 with fail
  obtain ⟨g, hg⟩ : ∃ g, g = wc.heap.size := ⟨_, rfl⟩
  refine wp_genY (fun wx => wx.cell? ⟨g, j, none⟩ = some (.string (jS j)) ∧ Below w.heap.size w wx ∧ g < wx.heap.size) ⟨by rw [hg]; exact (World.cell?_alloc_new wc jC 9 j).trans (jC_get j NN.out.2.2), B5.out.alloc B5.out.size _, by rw [hg]; simp⟩ ?_
  intro wx hwx
  have HX := Lib.hid hwx.2
  have kc := hwx.1
  have EX := Lib.hid (HW.out.below hwx.2.1)
  rw [← hg]
  clear hwx hg B5
  obtain ⟨js, hjs⟩ : ∃ js, js = jS j := ⟨_, rfl⟩
  have JS := Lib.hid (jS_bl j NN.out.2.2)
  rw [← hjs] at kc JS
  clear hjs
  have CI := Lib.hid (fun (w1 : World) (h : EW w1) => cItE n NN.out.2.1 w1 h.1)
  have CP : Hid (∀ (w1 : World) (r : ByteArray), EW w1 → bl r = dgs n → Calls Tryz.prog 12 #[.string (⟨#[115, 116, 101, 112, 115, 40]⟩ ++ r ++ ⟨#[44]⟩ ++ js ++ ⟨#[41]⟩)] w1 fun e w' => OkR w1 (.steps n (j + 1)) e w') := Lib.hid (fun w1 r h hr => by
    have h12 := k12 (⟨#[115, 116, 101, 112, 115, 40]⟩ ++ r ++ ⟨#[44]⟩ ++ js ++ ⟨#[41]⟩) w1 h
    have j4 := NN.out.2.2
    rw [bl_st r js n (j + 1) hr JS.out.1, parse_steps (.inl rfl) (by have := NN.out.1; omega) NN.out.2.1 (by omega) (by omega) (by have := NN.out.1; omega)] at h12
    exact h12)
  have SZ : Hid (∀ r : ByteArray, r.size ≤ 9 → ¬ 9223372036854775807 < 6 + r.size ∧ ¬ 9223372036854775807 < 6 + r.size + 1 ∧ ¬ 9223372036854775807 < 6 + r.size + 1 + js.size ∧ ¬ 9223372036854775807 < 6 + r.size + 1 + js.size + 1) := Lib.hid (fun r hr => by have := JS.out.2; omega)
  have b0 : (0 : Int) ≤ (j : Int) := Int.natCast_nonneg j
  have b1 : (j : Int) < 4 := by have := NN.out.2.2; omega
  rw [i3]
  go_cut [12, 13] (fun a b wy => ∃ p, a = ptr p ∧ b = .nilIface ∧ Hid (EzAt wy p (.steps n (j + 1)) ∧ Below wx.heap.size wx wy))
  case first =>
    rename_i JJ QQ HRJ HMK
    have J : Hid (Below wx.heap.size wx wx.drew) := Lib.hid ⟨rfl, rfl, rfl, Nat.le_refl _, fun _ _ => rfl⟩
    have KK : Hid (∀ wy : World, Below wx.heap.size wx wy → wy.cell? ⟨g, j, none⟩ = some (.string js)) := Lib.hid fun wy h => (h.cell (p := ⟨g, j, none⟩) HX.out.2).trans kc
    have g1 := KK.out _ J.out
    go_region_held3 (fun w' => w'.cell? ⟨g, j, none⟩ = some (.string js)) (exact KK.out _ J.out) (first
      | (go_at_call 17; (with_reducible refine (CI.out _ (EX.out.below J.out)).mono ?_); rintro e w3 ⟨⟨r, rfl, hr, hrs⟩, hb⟩; replace J := Lib.hid (J.out.trans (hb.mono J.out.size)); obtain ⟨f1, f2, f3, f4⟩ := SZ.out r hrs; have HR := Lib.hid hr; clear hb hr hrs)
      | (go_at_call 12; (with_reducible refine (CP.out _ _ (EX.out.below J.out) HR.out).mono ?_); rintro e w4 ⟨p, rfl, hp⟩; replace J := Lib.hid (J.out.trans (hp.2.2.mono J.out.size)); have ZP := Lib.hid hp.2.1; clear hp))
    all_goals
      refine HMK _ _ (Met.intro (HRJ _ _ ?_))
      (repeat apply Exists.intro)
      exact ⟨⟨p, rfl, rfl, Lib.hid ⟨ZP.out, J.out⟩⟩, rfl⟩
  case rest =>
  obtain ⟨p, rfl, rfl, hZ⟩ := hcut
  have BW : Hid (Below w.heap.size w wc) := Lib.hid (HX.out.1.trans (hZ.out.2.mono HX.out.1.size))
  have Z9 := Lib.hid hZ.out.1
  have t1 := (RV.self UX.out.1).ge zero_RV
  have t2 := (RV.self UX.out.1).le one_RV
  have t3 := (RV.self UX.out.2).ge zero_RV
  have t4 := (RV.self UX.out.2).le one_RV
  obtain ⟨d1, h1⟩ : ∃ d, d = fleP 0 (pl x) := ⟨_, rfl⟩
  obtain ⟨d2, h2⟩ : ∃ d, d = fleP (pl x) (iP 1) := ⟨_, rfl⟩
  obtain ⟨d3, h3⟩ : ∃ d, d = fleP 0 (pl y) := ⟨_, rfl⟩
  obtain ⟨d4, h4⟩ : ∃ d, d = fleP (pl y) (iP 1) := ⟨_, rfl⟩
  rw [← h1] at t1
  rw [← h2] at t2
  rw [← h3] at t3
  rw [← h4] at t4
  have DD := Lib.hid (And.intro h1 (And.intro h2 (And.intro h3 h4)))
  clear h1 h2 h3 h4 CI CP SZ EX HX kc hZ b0 b1 m3 n3 i3 m0 i0 w1 w2 EN EK C11 JS
  cases d1
  · go_wp2_with fail
    go_ret
    exact ⟨rfl, BW.out⟩
  cases d2
  · go_wp2_with fail
    go_ret
    exact ⟨rfl, BW.out⟩
  cases d3
  · go_wp2_with fail
    go_ret
    exact ⟨rfl, BW.out⟩
  cases d4
  · go_wp2_with fail
    go_ret
    exact ⟨rfl, BW.out⟩
  obtain ⟨X, hX, lX⟩ := pu_unit UX.out.1 DD.out.1.symm DD.out.2.1.symm
  obtain ⟨Y, hY, lY⟩ := pu_unit UX.out.2 DD.out.2.2.1.symm DD.out.2.2.2.symm
  have t5 := (RV.self UX.out.1).gt (RV.self UX.out.2)
  rw [hY.lt hX] at t5
  have XY := Lib.hid (And.intro (And.intro hX lX) (And.intro hY lY))
  clear hX hY lX lY
  go_upto_if 80 with fail
  go_cut [2, 3] (fun a b wy => ∃ x1 y1 X1 Y1 : Nat, a = .float .f64 x1 ∧ b = .float .f64 y1 ∧ Hid (U x1 ∧ U y1 ∧ PU (pl x1) X1 ∧ PU (pl y1) Y1 ∧ X1 ≤ Y1 ∧ Y1 ≤ ONE) ∧ wy = wc)
  case first =>
    by_cases c : (Y : Int) < (X : Int)
    · have E : Hid (U y ∧ U x ∧ PU (pl y) Y ∧ PU (pl x) X ∧ Y ≤ X ∧ X ≤ ONE) := Lib.hid ⟨UX.out.2, UX.out.1, XY.out.2.1, XY.out.1.1, by omega, XY.out.1.2⟩
      go_wp2_with fail
      go_meet
      exact ⟨_, _, _, _, rfl, rfl, E, rfl⟩
    · have E : Hid (U x ∧ U y ∧ PU (pl x) X ∧ PU (pl y) Y ∧ X ≤ Y ∧ Y ≤ ONE) := Lib.hid ⟨UX.out.1, UX.out.2, XY.out.1.1, XY.out.2.1, by omega, XY.out.2.2⟩
      go_wp2_with fail
      go_meet
      exact ⟨_, _, _, _, rfl, rfl, E, rfl⟩
  case rest =>
  obtain ⟨x1, y1, X1, Y1, rfl, rfl, hxy, hw⟩ := hcut
  subst hw
  clear t1 t2 t3 t4 t5 XY DD UX
  go_upto_region 16 with fail
  go_cut [14] (fun a wy => a = .float .f64 (fz (jM n (j + 1) : Nat)) ∧ Hid (Below w.heap.size w wy ∧ EzAt wy p (.steps n (j + 1))))
  case first =>
    have j4 : j = 0 ∨ j = 1 ∨ j = 2 ∨ j = 3 := by have := NN.out.2.2; omega
    have a0 : wrap64 (n : Int) = (n : Int) := by have := NN.out.2.1; unfold wrap64; omega
    have a1 : wrap64 ((n : Int) + 1) = ((n + 1 : Nat) : Int) := by have := NN.out.2.1; unfold wrap64; omega
    have a2 : wrap64 ((n : Int) + -1) = ((n - 1 : Nat) : Int) := by have := NN.out.1; have := NN.out.2.1; unfold wrap64; omega
    have a3 : wrap64 ((n : Int) - 1) = ((n - 1 : Nat) : Int) := by have := NN.out.1; have := NN.out.2.1; unfold wrap64; omega
    rcases j4 with rfl | rfl | rfl | rfl
    all_goals
      go_wp2_with fail
      go_meet
      exact ⟨congrArg (fun z : Int => Value.float .f64 (floatOfInt .f64 z)) rfl, Lib.hid ⟨BW.out.alloc BW.out.size _, Z9.out.below ((Below.refl _ wc).alloc (Nat.le_refl _) _)⟩⟩
  case rest =>
  obtain ⟨rfl, hB⟩ := hcut
  obtain ⟨M, hM⟩ : ∃ M, M = jM n (j + 1) := ⟨_, rfl⟩
  obtain ⟨J, hJ⟩ : ∃ J, J = j + 1 := ⟨_, rfl⟩
  have PM : Hid (PU (iP M) ((M : Nat) * ONEi) ∧ 0 < M ∧ M ≤ 1073741824) := Lib.hid (by rw [hM]; exact ⟨jM_iP NN.out.2.1, jM_pos NN.out.1, jM_le NN.out.2.1⟩)
  have HM : Hid (M = jM n J) := Lib.hid (by rw [hM, hJ])
  rw [← hJ] at hB
  rw [← hJ, ← HM.out]
  clear hM hJ
  obtain ⟨mf, hmf⟩ : ∃ f, f = fz (M : Nat) := ⟨_, rfl⟩
  have RM : Hid (RV mf (iP M)) := Lib.hid (by rw [hmf]; exact fz_RV M)
  rw [← hmf]
  clear hmf
  obtain ⟨sx, hsx⟩ : ∃ s, s = sSt n J X1 := ⟨_, rfl⟩
  obtain ⟨bx, hbx⟩ : ∃ s, s = bSt n J X1 := ⟨_, rfl⟩
  obtain ⟨yx, hyx⟩ : ∃ s, s = ySt n X1 := ⟨_, rfl⟩
  obtain ⟨P, hP⟩ : ∃ P, P = stepsP n J (pl x1) false := ⟨_, rfl⟩
  obtain ⟨Q, hQ⟩ : ∃ P, P = stepsP n J (pl y1) false := ⟨_, rfl⟩
  obtain ⟨B, hBb⟩ : ∃ P, P = stepsP n J (pl x1) true := ⟨_, rfl⟩
  obtain ⟨ux, uy, px, py, lxy, ly⟩ := hxy.out
  obtain ⟨s1, s2⟩ := steps_PU (j := J) px (Nat.le_trans lxy ly) NN.out.1 NN.out.2.1
  have a1 := stA_PU (j := J) px (Nat.le_trans lxy ly) NN.out.2.1
  have yf := y_facts NN.out.2.1 (Nat.le_trans lxy ly)
  rw [← hsx, ← HM.out, ← hP] at s1
  rw [← hbx, ← HM.out, ← hBb] at s2
  have lsx : sx ≤ M := by rw [hsx, HM.out]; exact sSt_le _ _ _
  have lbx : bx ≤ M := by rw [hbx, HM.out]; exact bSt_le _ _ _
  have LAW : Hid (∀ i k : Int, PU i ((sx : Nat) * ONEi) → PU k ((bx : Nat) * ONEi) → fleP P Q = true ∧ fleP 0 P = true ∧ fleP Q (iP 1) = true ∧ feqP (opP .quo i (iP M)) P = true ∧ feqP (opP .quo k (iP M)) B = true ∧ (feqP k i = true ∨ (yx % ONE = 0 ∧ (feqP k (opP .sub i (iP 1)) = true ∨ feqP k 0 = true)))) := Lib.hid (fun i k hi hk => by
    have := steps_law (j := J) px py lxy ly NN.out.1 NN.out.2.1 (i := i) (k := k) (by rw [← hsx]; exact hi) (by rw [← hbx]; exact hk)
    rw [← HM.out, ← hP, ← hQ, ← hBb, ← hyx] at this
    exact this)
  have CA : Hid (∀ (w1 : World), EzAt w1 p (.steps n J) → Calls Tryz.prog 15 #[.pointer (some ⟨p, 0, none⟩), .float .f64 x1, .bool false] w1 fun e w' => RetR P e ∧ Below w1.heap.size w1 w') := Lib.hid (by rw [hP, ← at_steps px]; exact fun w1 h => k15 (RV.self ux) p (.steps n J) false w1 h)
  have CB : Hid (∀ (w1 : World), EzAt w1 p (.steps n J) → Calls Tryz.prog 15 #[.pointer (some ⟨p, 0, none⟩), .float .f64 y1, .bool false] w1 fun e w' => RetR Q e ∧ Below w1.heap.size w1 w') := Lib.hid (by rw [hQ, ← at_steps py]; exact fun w1 h => k15 (RV.self uy) p (.steps n J) false w1 h)
  have CC : Hid (∀ (w1 : World), EzAt w1 p (.steps n J) → Calls Tryz.prog 15 #[.pointer (some ⟨p, 0, none⟩), .float .f64 x1, .bool true] w1 fun e w' => RetR B e ∧ Below w1.heap.size w1 w') := Lib.hid (by rw [hBb, ← at_steps px]; exact fun w1 h => k15 (RV.self ux) p (.steps n J) true w1 h)
  obtain ⟨FM, NM, fM, RMu⟩ := opq .mul rfl
  obtain ⟨FQ, NQ, fQ, RQu⟩ := opq .quo rfl
  obtain ⟨FS, NS, fS, RSu⟩ := opq .sub rfl
  obtain ⟨fn, hfn, rfn⟩ := opz (n : Int)
  have CW1 : Hid (∀ (r : Nat) (w1 w2 : World), RV r P → Calls Tryz.prog 18 #[.float .f64 (FM r mf w2)] w1 fun e w' => (∃ i, e = .returned (.float .f64 i) ∧ RV i (pl i) ∧ PU (pl i) ((sx : Nat) * ONEi)) ∧ Below w1.heap.size w1 w') := Lib.hid (fun r w1 w2 hr => by
    have h1 := RMu r mf P (iP M) w2 hr RM.out
    obtain ⟨b1, b2⟩ := back_whole PM.out.2.1 PM.out.2.2 lsx
    have h2 : PU (pl (FM r mf w2)) (V (rnd (V (qR sx M) * M)) : Nat) := by rw [h1.2]; exact s1.mulN PM.out.1 b1
    refine (c18 w1 h1.1 h2).mono ?_
    rintro e w' ⟨⟨i, rfl, ui, pi⟩, hb⟩
    rw [b2] at pi
    exact ⟨⟨i, rfl, RV.self ui, pi⟩, hb⟩)
  have CW2 : Hid (∀ (r : Nat) (w1 w2 : World), RV r B → Calls Tryz.prog 18 #[.float .f64 (FM r mf w2)] w1 fun e w' => (∃ i, e = .returned (.float .f64 i) ∧ RV i (pl i) ∧ PU (pl i) ((bx : Nat) * ONEi)) ∧ Below w1.heap.size w1 w') := Lib.hid (fun r w1 w2 hr => by
    have h1 := RMu r mf B (iP M) w2 hr RM.out
    obtain ⟨b1, b2⟩ := back_whole PM.out.2.1 PM.out.2.2 lbx
    have h2 : PU (pl (FM r mf w2)) (V (rnd (V (qR bx M) * M)) : Nat) := by rw [h1.2]; exact s2.mulN PM.out.1 b1
    refine (c18 w1 h1.1 h2).mono ?_
    rintro e w' ⟨⟨i, rfl, ui, pi⟩, hb⟩
    rw [b2] at pi
    exact ⟨⟨i, rfl, RV.self ui, pi⟩, hb⟩)
  have CF : Hid (∀ (w1 w2 : World), Calls Tryz.prog 19 #[.float .f64 (FM x1 fn w2)] w1 fun e w' => (∃ i, e = .returned (.float .f64 i) ∧ ∀ w3, (FloatKind.f64.format.order (FM x1 fn w3) i == some Ordering.eq) = decide (yx % ONE = 0)) ∧ Below w1.heap.size w1 w') := Lib.hid (fun w1 w2 => by
    have h1 := RMu x1 fn (pl x1) (iP n) w2 (RV.self ux) rfn
    have h2 : PU (pl (FM x1 fn w2)) (yx : Nat) := by rw [h1.2, hyx]; exact a1.1
    refine (c19 w1 h1.1 h2).mono ?_
    rintro e w' ⟨⟨i, rfl, ui, pi⟩, hb⟩
    refine ⟨⟨i, rfl, fun w3 => ?_⟩, hb⟩
    have h3 := RMu x1 fn (pl x1) (iP n) w3 (RV.self ux) rfn
    have h4 : PU (opP .mul (pl x1) (iP n)) (yx : Nat) := by rw [hyx]; exact a1.1
    rw [RV.eq_ h3 (RV.self ui), h4.eqP pi]
    have hd := Nat.div_add_mod yx ONE
    have ec : ((yx : Int) = ((yx / ONE : Nat) : Int) * ONEi) ↔ yx % ONE = 0 := by
      have : ((yx / ONE : Nat) : Int) * ONEi = ((ONE * (yx / ONE) : Nat) : Int) := by unfold ONEi; rw [Nat.mul_comm]; exact (Int.natCast_mul _ _).symm
      rw [this]
      omega
    exact decide_eq_decide.2 ec)
  have UU := Lib.hid (And.intro RQu RSu)
  obtain ⟨BW2, Z2⟩ := hB.out
  have BW2 := Lib.hid BW2
  have Z2 := Lib.hid Z2
  clear hsx hbx hyx hP hQ hBb ux uy px py lxy ly s1 s2 a1 yf lsx lbx hB BW Z9 RMu RQu RSu rfn hxy
  go_upto_region 20 with (first
    | (go_at_call 15; (with_reducible refine (CA.out _ Z2.out).mono ?_); rintro e w3 ⟨⟨r1, rfl, hr1⟩, hb3⟩; have R1 := Lib.hid hr1; have B3 := Lib.hid hb3; clear hr1 hb3)
    | (go_at_call 15; (with_reducible refine (CB.out _ (Z2.out.below B3.out)).mono ?_); rintro e w4 ⟨⟨r2, rfl, hr2⟩, hb4⟩; have R2 := Lib.hid hr2; have B4 := Lib.hid hb4; clear hr2 hb4)
    | (go_at_call 15; (with_reducible refine (CC.out _ ((Z2.out.below B3.out).below B4.out)).mono ?_); rintro e w5 ⟨⟨r3, rfl, hr3⟩, hb5⟩; have R3 := Lib.hid hr3; have B5 := Lib.hid hb5; clear hr3 hb5))
  have S3 := Lib.hid ((BW2.out.trans (B3.out.mono BW2.out.size)))
  have S4 := Lib.hid ((S3.out.trans (B4.out.mono S3.out.size)))
  have S5 := Lib.hid ((S4.out.trans (B5.out.mono S4.out.size)))
  clear B3 B4 B5 S3 S4 CA CB CC
  go_upto_region 24 with (first
    | (go_at_call 18; (with_reducible refine (CW1.out _ _ _ R1.out).mono ?_); rintro e w6 ⟨⟨i6, rfl, hi6⟩, hb6⟩; have I6 := Lib.hid hi6; have B6 := Lib.hid hb6; clear hi6 hb6)
    | (go_at_call 18; (with_reducible refine (CW2.out _ _ _ R3.out).mono ?_); rintro e w7 ⟨⟨i7, rfl, hi7⟩, hb7⟩; have I7 := Lib.hid hi7; have B7 := Lib.hid hb7; clear hi7 hb7)
    | (go_at_call 19; (with_reducible refine (CF.out _ _).mono ?_); rintro e w8 ⟨⟨i8, rfl, hi8⟩, hb8⟩; have I8 := Lib.hid hi8; have B8 := Lib.hid hb8; clear hi8 hb8))
  have S6 := Lib.hid ((Bdn S5.out _).trans (B6.out.mono S5.out.size))
  have S7 := Lib.hid ((Bdn S6.out _).trans (B7.out.mono S6.out.size))
  have S8 := Lib.hid ((Bdn S7.out _).trans (B8.out.mono S7.out.size))
  obtain ⟨L1, L2, L3, L4, L5, L6⟩ := LAW.out _ _ I6.out.2 I7.out.2
  have g1 := (RV.le R1.out R2.out).trans L1
  have g2 := (RV.ge R1.out zero_RV).trans L2
  have g3 := (RV.le R2.out one_RV).trans L3
  have g4 : ∀ w3 : World, (FloatKind.f64.format.order (FQ i6 mf w3) r1 == some Ordering.eq) = true := fun w3 => (RV.eq_ (UU.out.1 _ _ _ _ w3 I6.out.1 RM.out) R1.out).trans L4
  have g5 : ∀ w3 : World, (FloatKind.f64.format.order (FQ i7 mf w3) r3 == some Ordering.eq) = true := fun w3 => (RV.eq_ (UU.out.1 _ _ _ _ w3 I7.out.1 RM.out) R3.out).trans L5
  have g6 := RV.eq_ I7.out.1 I6.out.1
  have g7 : ∀ w3 : World, (FloatKind.f64.format.order i7 (FS i6 4607182418800017408 w3) == some Ordering.eq) = feqP (pl i7) (opP .sub (pl i6) (iP 1)) := fun w3 => RV.eq_ I7.out.1 (UU.out.2 _ _ _ _ w3 I6.out.1 one_RV)
  have g8 := RV.eq_ I7.out.1 zero_RV
  have g9 := I8.out
  obtain ⟨c6, h6⟩ : ∃ c, c = feqP (pl i7) (pl i6) := ⟨_, rfl⟩
  obtain ⟨c7, h7⟩ : ∃ c, c = feqP (pl i7) (opP .sub (pl i6) (iP 1)) := ⟨_, rfl⟩
  obtain ⟨c8, h8⟩ : ∃ c, c = feqP (pl i7) 0 := ⟨_, rfl⟩
  obtain ⟨c9, h9⟩ : ∃ c, c = decide (yx % ONE = 0) := ⟨_, rfl⟩
  rw [← h6] at g6 L6
  rw [← h8] at g8 L6
  rw [← h7] at L6
  simp only [← h7] at g7
  simp only [← h9] at g9
  have L7 : c6 = true ∨ (c9 = true ∧ (c7 = true ∨ c8 = true)) := L6.imp id (fun h => ⟨by rw [h9]; exact decide_eq_true h.1, h.2⟩)
  clear h6 h7 h8 h9 L1 L2 L3 L4 L5 L6 I6 I7 I8 LAW UU R1 R2 R3 B6 B7 B8 S5 S6 S7 CW1 CW2 CF
  cases c6
  · rcases L7 with h | ⟨rfl, h⟩
    · cases h
    cases c7
    · rcases h with h | rfl
      · cases h
      go_wp2_with fail
      go_ret
      exact ⟨rfl, Bdn S8.out _⟩
    · clear h
      go_wp2_with fail
      go_ret
      exact ⟨rfl, Bdn S8.out _⟩
  · clear L7
    go_wp2_with fail
    go_ret
    exact ⟨rfl, Bdn S8.out _⟩
end Go.Proofs.YtlgencbldbpbdaaGreatDoor
