/- Held. -/
import Derived.Test.YtelalledjbeenaaMgSumsD
namespace Go.Proofs.Ytelalledjbeenaa
open Go.RowKit Fl

/-- Held's two variables lie in blocks b and b + 1 -/
structure HeldAt (w : World) (b : Nat) (s c : Nat) : Prop where
  k1 : w.cell? ⟨b, 0, none⟩ = some (.float .f64 s)
  k2 : w.cell? ⟨b + 1, 0, none⟩ = some (.float .f64 c)
  f1 : w.frozen? ⟨b, 0, none⟩ = false
  f2 : w.frozen? ⟨b + 1, 0, none⟩ = false
theorem HeldAt.step {w : World} {b s c : Nat} (h : HeldAt w b s c) (n s' c' : Nat) :
    HeldAt (((w.drewN n).setCell ⟨b + 1, 0, none⟩ (.float .f64 c')).setCell ⟨b, 0, none⟩ (.float .f64 s')) b s' c' := by
  have hne : (⟨b, 0, none⟩ : Addr) ≠ ⟨b + 1, 0, none⟩ := by intro h; injection h with h; omega
  have k1 : (w.drewN n).cell? ⟨b, 0, none⟩ = some (.float .f64 s) := h.k1
  have k2 : (w.drewN n).cell? ⟨b + 1, 0, none⟩ = some (.float .f64 c) := h.k2
  have m1 : ((w.drewN n).setCell ⟨b + 1, 0, none⟩ (.float .f64 c')).cell? ⟨b, 0, none⟩ = some (.float .f64 s) := (World.cell?_setCell_other _ _ _ _ (fun e => hne (by injection e with e; first | exact absurd e (by omega) | (subst_vars; omega)))).trans k1
  refine ⟨World.cell?_setCell_same _ _ _ m1, ?_, ?_, ?_⟩
  · exact (World.cell?_setCell_other _ _ _ _ (fun e => by injection e with e; omega)).trans (World.cell?_setCell_same _ _ _ k2)
  · exact (World.frozen?_setCell ..).trans ((World.frozen?_setCell ..).trans h.f1)
  · exact (World.frozen?_setCell ..).trans ((World.frozen?_setCell ..).trans h.f2)
theorem held_below {w0 w : World} {b : Nat} (h : Below b w0 w) (n s' c' : Nat) : Below b w0 (((w.drewN n).setCell ⟨b + 1, 0, none⟩ (.float .f64 c')).setCell ⟨b, 0, none⟩ (.float .f64 s')) :=
  ((Bd h n).setCell (by simp) _).setCell (by simp) _
theorem isI_abs (x : Nat) (hn : isN x = false) : (absP (pl x) = 9218868437227405312) ↔ isI x = true := by
  rw [← pl_rg]
  have h2 : isN (rg x) = false := by unfold isN at *; rw [rg_rg]; exact hn
  rw [pl_pos h2 (sg_rg x), rg_rg]
  unfold isI
  rw [decide_eq_true_eq]; omega
theorem heldP_eq (l : List Nat) (s t : Nat) (h : (pl s, pl t) = heldF l) : heldP l = if isI s || isN s || feqP (pl t) 0 then pl s else opP .add (pl s) (pl t) := by
  unfold heldP
  rw [← h]
  simp only
  have hr := isN_iff_pl s
  by_cases hn : isN s = true
  · rw [hn, if_pos (.inl (of_decide_eq_true (by rw [← hr]; exact hn)))]
    simp
  · have hn := Bool.eq_false_iff.2 hn
    have h1 := isI_abs s hn
    rw [hn] at hr
    have h2 := of_decide_eq_false hr.symm
    rw [hn, Bool.or_false]
    by_cases c : isI s = true
    · rw [if_pos (.inr (.inl (h1.2 c))), c]; simp
    · have h3 : ¬ absP (pl s) = 9218868437227405312 := fun e => c (h1.1 e)
      rw [Bool.eq_false_iff.2 c, Bool.false_or]
      by_cases d : feqP (pl t) 0 = true
      · rw [if_pos (.inr (.inr d)), if_pos d]
      · rw [if_neg, if_neg d]
        rintro (e | e | e)
        · exact h2 e
        · exact h3 e
        · exact d e

theorem held_start (w : World) : HeldAt ((w.alloc (.cells #[.float .f64 9223372036854775808] 24)).alloc (.cells #[.float .f64 0] 24)) w.heap.size 9223372036854775808 0 := by
  have hs : (w.alloc (.cells #[.float .f64 9223372036854775808] 24)).heap.size = w.heap.size + 1 := by simp
  have hb := (Below.refl (w.alloc (.cells #[.float .f64 9223372036854775808] 24)).heap.size (w.alloc (.cells #[.float .f64 9223372036854775808] 24))).alloc (Nat.le_refl _) (.cells #[.float .f64 0] 24)
  refine ⟨(hb.cell (p := ⟨w.heap.size, 0, none⟩) (by simp)).trans ((World.cell?_alloc_new w #[.float .f64 9223372036854775808] 24 0).trans rfl), ?_, (hb.frozen (p := ⟨w.heap.size, 0, none⟩) (by simp)).trans (by simp [go_sem]), ?_⟩
  · rw [← hs]; exact (World.cell?_alloc_new (w.alloc (.cells #[.float .f64 9223372036854775808] 24)) #[.float .f64 0] 24 0).trans rfl
  · rw [← hs]; simp [go_sem]
set_option maxRecDepth 100000 in
set_option maxHeartbeats 1000000 in
theorem c27 (b o c : Nat) (l : List Nat) (w : World) (h : FL w b o l) (hl : l.length < 4611686018427387904) :
    Calls Try.prog 27 #[.slice (some ⟨b, o, none⟩) l.length c] w fun e w' => RetF (heldP l) e ∧ Below w.heap.size w w' := by
  have H := Lib.hid h
  have st1 : ∀ v : Nat, (store ⟨w.heap.size, 0, none⟩ (.float .f64 v)).run Try.prog ((w.alloc (.cells #[.float .f64 0] 24)).alloc (.cells #[.float .f64 0] 24)) = .ok () (((w.alloc (.cells #[.float .f64 0] 24)).alloc (.cells #[.float .f64 0] 24)).setCell ⟨w.heap.size, 0, none⟩ (.float .f64 v)) := fun v => by
    have hb := (Below.refl (w.alloc (.cells #[.float .f64 0] 24)).heap.size (w.alloc (.cells #[.float .f64 0] 24))).alloc (Nat.le_refl _) (.cells #[.float .f64 0] 24)
    have k : ((w.alloc (.cells #[.float .f64 0] 24)).alloc (.cells #[.float .f64 0] 24)).cell? ⟨w.heap.size, 0, none⟩ = some (.float .f64 0) := (hb.cell (p := ⟨w.heap.size, 0, none⟩) (by simp)).trans ((World.cell?_alloc_new w #[.float .f64 0] 24 0).trans rfl)
    have f : ((w.alloc (.cells #[.float .f64 0] 24)).alloc (.cells #[.float .f64 0] 24)).frozen? ⟨w.heap.size, 0, none⟩ = false := (hb.frozen (p := ⟨w.heap.size, 0, none⟩) (by simp)).trans (by simp [go_sem])
    rw [run_store Try.prog _ _ _ _ rfl, k, f]; rfl
  have st2 : (store ⟨w.heap.size + 1, 0, none⟩ (.float .f64 0)).run Try.prog ((w.alloc (.cells #[.float .f64 9223372036854775808] 24)).alloc (.cells #[.float .f64 0] 24)) = .ok () (((w.alloc (.cells #[.float .f64 9223372036854775808] 24)).alloc (.cells #[.float .f64 0] 24)).setCell ⟨w.heap.size + 1, 0, none⟩ (.float .f64 0)) := by
    have hs : (w.alloc (.cells #[.float .f64 9223372036854775808] 24)).heap.size = w.heap.size + 1 := by simp
    have k : ((w.alloc (.cells #[.float .f64 9223372036854775808] 24)).alloc (.cells #[.float .f64 0] 24)).cell? ⟨w.heap.size + 1, 0, none⟩ = some (.float .f64 0) := by
      rw [← hs]; exact (World.cell?_alloc_new (w.alloc (.cells #[.float .f64 9223372036854775808] 24)) #[.float .f64 0] 24 0).trans rfl
    have f : ((w.alloc (.cells #[.float .f64 9223372036854775808] 24)).alloc (.cells #[.float .f64 0] 24)).frozen? ⟨w.heap.size + 1, 0, none⟩ = false := by
      rw [← hs]; simp [go_sem]
    rw [run_store Try.prog _ _ _ _ rfl, k, f]; rfl
  go_enter Try.func27, Try.ntmps27
  go_wp2_with (first | (go_at_call 131; refine (c131 _).mono ?_; rintro e w' ⟨rfl, rfl⟩))
  go_loopw [12] (fun i wx => ∃ (k s t : Nat), k ≤ l.length ∧ i = .int .i64 k ∧ Hid (U s ∧ U t ∧ (pl s, pl t) = heldF (l.take k)) ∧ Hid (HeldAt wx w.heap.size s t) ∧ Hid (Below w.heap.size w wx)) (fun i _ => l.length - (intOf i).toNat)
  case atStart =>
    refine ⟨0, 9223372036854775808, 0, by omega, rfl, Lib.hid ⟨by unfold U; decide, by unfold U; decide, ?_⟩, Lib.hid (held_start w), Lib.hid (((Below.refl _ _).alloc (Nat.le_refl _) _).alloc (by simp) _)⟩
    rw [List.take_zero]; rfl
  case round =>
    obtain ⟨k, s, t, hk, rfl, hP, hC, hB⟩ := hrel
    by_cases hlt : k < l.length
    · have hki : (k : Int) < (l.length : Int) := by omega
      obtain ⟨x, hx⟩ : ∃ x, l[k]? = some x := ⟨l[k], List.getElem?_eq_getElem hlt⟩
      have HX := Lib.hid hx
      have HLT := Lib.hid hlt
      have kc := (H.out.below hB.out).cell k x hx
      clear hx h hlt st1 st2
      go_wp2_with (go_at_call 132; fail)
      refine (c132 w.heap.size (w.heap.size + 1) s t x _ (H.out.u k x HX.out) hP.out.1 hP.out.2.1 (by omega) hC.out.k1 hC.out.k2 hC.out.f1 hC.out.f2).mono ?_
      rintro e w2 ⟨rfl, s', t', n, hs', ht', es, et, hw2⟩
      have P2 : Hid (U s' ∧ U t' ∧ (pl s', pl t') = heldF (l.take (k + 1))) := Lib.hid ⟨hs', ht', by rw [heldF_take l k x HX.out, ← hP.out.2.2, es, et]; rfl⟩
      have C2 : Hid (HeldAt w2 w.heap.size s' t') := Lib.hid (by rw [hw2]; exact hC.out.step n s' t')
      have B2 : Hid (Below w.heap.size w w2) := Lib.hid (by rw [hw2]; exact held_below hB.out n s' t')
      clear hs' ht' es et hw2 kc
      go_wp2
      go_roundw
      case rel => exact ⟨k + 1, s', t', by have := HLT.out; omega, by go_num, P2, C2, B2⟩
      case measure => have := HLT.out; simp [intOf]; omega
    · have hki : ¬ (k : Int) < (l.length : Int) := by omega
      have hkl : k = l.length := by omega
      have HP := Lib.hid (heldP_eq l s t (by have := hP.out.2.2; rwa [hkl, List.take_length] at this))
      have HU := Lib.hid (And.intro hP.out.1 hP.out.2.1)
      have k1 := hC.out.k1
      have k2 := hC.out.k2
      have e0 := f_eq t 0 hP.out.2.1 (by unfold U; decide)
      rw [show pl 0 = 0 by decide] at e0
      have hf := fun w => run_fop (P := Try.prog) .add rfl 24 s t w
      clear hlt hkl h hP st1 st2
      have hA := fun wx => c130 s wx HU.out.1
      have hN := fun wx => c129 s wx HU.out.1
      have F1 : Hid (∀ z, pl s = z → RetF z (.returned (.float .f64 s))) := Lib.hid fun z hz => ⟨s, rfl, HU.out.1, hz⟩
      have F2 : Hid (∀ wx z, opP .add (pl s) (pl t) = z → RetF z (.returned (.float .f64 (fop .add s t wx)))) := Lib.hid fun wx z hz => ⟨_, rfl, U_fop _ _ _ _, by rw [pl_fop .add s t wx HU.out.1 HU.out.2]; exact hz⟩
      have B2 := Lib.hid (Bd hB.out (fopN .add s t))
      have HA := Lib.hid hA
      have HN := Lib.hid hN
      clear hA hN
      cases hi : isI s
      · cases hn : isN s
        · cases hz : feqP (pl t) 0
          · rw [hz] at e0
            have HI := Lib.hid (And.intro hi (And.intro hn hz))
            clear hi hn hz
            go_wp2_with (first | (go_at_call 130; refine (HA.out _).mono ?_; rintro e w' ⟨rfl, rfl⟩; rw [HI.out.1]) | (go_at_call 129; refine (HN.out _).mono ?_; rintro e w' ⟨rfl, rfl⟩; rw [HI.out.2.1]))
            go_ret
            exact ⟨F2.out _ _ (by rw [HP.out, HI.out.1, HI.out.2.1, HI.out.2.2]; rfl), B2.out⟩
          · rw [hz] at e0
            have HI := Lib.hid (And.intro hi (And.intro hn hz))
            clear hi hn hz
            go_wp2_with (first | (go_at_call 130; refine (HA.out _).mono ?_; rintro e w' ⟨rfl, rfl⟩; rw [HI.out.1]) | (go_at_call 129; refine (HN.out _).mono ?_; rintro e w' ⟨rfl, rfl⟩; rw [HI.out.2.1]))
            go_ret
            exact ⟨F1.out _ (by rw [HP.out, HI.out.1, HI.out.2.1, HI.out.2.2]; rfl), hB.out⟩
        · have HI := Lib.hid (And.intro hi hn)
          clear hi hn
          go_wp2_with (first | (go_at_call 130; refine (HA.out _).mono ?_; rintro e w' ⟨rfl, rfl⟩; rw [HI.out.1]) | (go_at_call 129; refine (HN.out _).mono ?_; rintro e w' ⟨rfl, rfl⟩; rw [HI.out.2]))
          go_ret
          exact ⟨F1.out _ (by rw [HP.out, HI.out.1, HI.out.2]; rfl), hB.out⟩
      · have HI := Lib.hid hi
        clear hi
        go_wp2_with (first | (go_at_call 130; refine (HA.out _).mono ?_; rintro e w' ⟨rfl, rfl⟩; rw [HI.out]) | (go_at_call 129; refine (HN.out _).mono ?_; rintro e w' ⟨rfl, rfl⟩))
        go_ret
        exact ⟨F1.out _ (by rw [HP.out, HI.out]; rfl), hB.out⟩
end Go.Proofs.Ytelalledjbeenaa
