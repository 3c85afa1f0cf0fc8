/- Pairs. Held and Pairs of no numbers; the head of all statements of layer 2: 'awake' answers true. -/
import Derived.Test.YtelalledjbeenaaMgSumsA
import Derived.Test.YtelalledjbeenaaMgSumP
namespace Go.Proofs.Ytelalledjbeenaa
open Go.RowKit Fl

theorem FL.take {w : World} {b o : Nat} {l : List Nat} (h : FL w b o l) (k : Nat) : FL w b o (l.take k) :=
  ⟨fun j x hj => h.cell j x (by rw [List.getElem?_take] at hj; split at hj; exact hj; cases hj), fun j x hj => h.u j x (by rw [List.getElem?_take] at hj; split at hj; exact hj; cases hj), h.lt⟩
theorem FL.drop {w : World} {b o : Nat} {l : List Nat} (h : FL w b o l) (k : Nat) : FL w b (o + k) (l.drop k) :=
  ⟨fun j x hj => by rw [Nat.add_assoc]; exact h.cell (k + j) x (by rw [List.getElem?_drop] at hj; exact hj), fun j x hj => h.u (k + j) x (by rw [List.getElem?_drop] at hj; exact hj), h.lt⟩
def RetV (p : Int) (v : Value) : Prop := ∃ r, v = .float .f64 r ∧ U r ∧ pl r = p

set_option maxRecDepth 100000 in
set_option maxHeartbeats 1000000 in
theorem c28s (b o c : Nat) (l : List Nat) (w : World) (h : FL w b o l) (hl : l.length ≤ 2) :
    Calls Try.prog 28 #[.slice (some ⟨b, o, none⟩) l.length c] w fun e w' => RetF (pairsP l) e ∧ Below w.heap.size w w' := by
  have hp : pairsP l = plainP l := by rw [pairsP, if_pos hl]
  have HP := Lib.hid hp
  have h2 : (l.length : Int) ≤ 2 := by omega
  have H26 := Lib.hid (fun wx (hx : FL wx b o l) => c26 b o c l wx hx (by omega))
  have H := Lib.hid h
  clear h hp hl
  rw [HP.out]
  go_enter Try.func28, Try.ntmps28
  go_wp2_with (go_at_call 26; fail)
  refine (H26.out _ H.out).mono ?_
  rintro e w2 ⟨⟨r, rfl, hu, hr⟩, hb⟩
  have HU := Lib.hid (And.intro hu hr)
  have HB := Lib.hid hb
  clear hu hr hb
  go_wp2
  go_ret
  exact ⟨⟨r, rfl, HU.out⟩, HB.out⟩

def pairsG (b o c : Nat) (l : List Nat) (_f : FuncId) (args : Array Value) (v : Value) : Prop :=
  (args = #[.slice (some ⟨b, o, none⟩) (l.length / 2) c] → RetV (pairsP (l.take (l.length / 2))) v) ∧
  (args = #[.slice (some ⟨b, o + l.length / 2, none⟩) (l.length - l.length / 2) (c - l.length / 2)] → RetV (pairsP (l.drop (l.length / 2))) v)
set_option maxRecDepth 100000 in
set_option maxHeartbeats 1000000 in
theorem c28 (n : Nat) : ∀ (b o c : Nat) (l : List Nat) (w : World), l.length ≤ n → FL w b o l → l.length ≤ c → l.length < 4611686018427387904 →
    Calls Try.prog 28 #[.slice (some ⟨b, o, none⟩) l.length c] w fun e w' => RetF (pairsP l) e ∧ Below w.heap.size w w' := by
  induction n with
  | zero => intro b o c l w hn h _ _; exact c28s b o c l w h (by omega)
  | succ n ih =>
    intro b o c l w hn h hc hc2
    by_cases h2 : l.length ≤ 2
    · exact c28s b o c l w h h2
    · have hp : pairsP l = opP .add (pairsP (l.take (l.length / 2))) (pairsP (l.drop (l.length / 2))) := by rw [pairsP, if_neg h2]
      have HP := Lib.hid hp
      have IH := Lib.hid ih
      have H := Lib.hid h
      have HK := Lib.hid (And.intro (show (l.take (l.length / 2)).length ≤ n by rw [List.length_take]; omega) (show (l.drop (l.length / 2)).length ≤ n by rw [List.length_drop]; omega))
      have HL := Lib.hid (And.intro (show (l.take (l.length / 2)).length = l.length / 2 by rw [List.length_take]; omega) (show (l.drop (l.length / 2)).length = l.length - l.length / 2 by rw [List.length_drop]))
      have a1 : (0 : Int) ≤ (l.length : Int) / 2 := by omega
      have a2 : (l.length : Int) / 2 ≤ (l.length : Int) := by omega
      have a3 : (l.length : Int) ≤ (c : Int) := by omega
      have a4 : ¬ (l.length : Int) ≤ 2 := by omega
      have HD : Hid (¬ (#[.slice (some ⟨b, o, none⟩) (l.length / 2) c] : Array Value) = #[.slice (some ⟨b, o + l.length / 2, none⟩) (l.length - l.length / 2) (c - l.length / 2)]) := Lib.hid (by intro h; injection h with h; injection h with h; injection h with h; injection h; omega)
      clear hp ih h hn
      rw [HP.out]
      go_enter Try.func28, Try.ntmps28
      go_wp2_with fail
      refine wp_region_rel 10 (fun w' => Below w.heap.size w w') (pairsG b o c l) (by kernel_rfl) (by kernel_rfl) ((Below.refl _ _).drew) ?_
      simp only [List.take_succ_cons, List.take_zero, List.drop_succ_cons, List.drop_zero]
      refine rel_move (v := .slice (some ⟨b, o, none⟩) l.length c) rfl rfl ?_
      simp only [Act.put, List.setIfInBounds_toArray, List.set_cons_succ, List.set_cons_zero]
      refine rel_move (v := .int .i64 ((l.length : Int) / 2)) rfl rfl ?_
      simp only [Act.put, List.setIfInBounds_toArray, List.set_cons_succ, List.set_cons_zero]
      have t1 : ((l.length : Int) / 2).toNat = l.length / 2 := by omega
      have a5 : (l.length : Int) / 2 ≤ (c : Int) := by omega
      refine rel_val (v := .slice (some ⟨b, o, none⟩) (l.length / 2) c) rfl (fun w' hw => ?_) ?_
      · go_simp
      simp only [Act.put, List.setIfInBounds_toArray, List.set_cons_succ, List.set_cons_zero]
      refine rel_call (f := 28) (args := #[.slice (some ⟨b, o, none⟩) (l.length / 2) c]) rfl (fun w' hw => ?_) (fun w' hw => ?_) (fun v hv => ?_)
      · go_simp
      · have := IH.out b o c (l.take (l.length / 2)) w' HK.out.1 ((H.out.below hw).take _) (by rw [HL.out.1]; omega) (by rw [HL.out.1]; omega)
        rw [HL.out.1] at this
        refine this.mono ?_
        rintro y w'' ⟨⟨r, rfl, hr⟩, hb⟩
        exact ⟨_, rfl, ⟨fun _ => ⟨r, rfl, hr⟩, fun h => absurd h HD.out⟩, below_trans hw hb⟩
      obtain ⟨r1, rfl, u1, e1⟩ := hv.1 rfl
      simp only [Act.put, List.setIfInBounds_toArray, List.set_cons_succ, List.set_cons_zero]
      refine rel_move (v := .slice (some ⟨b, o, none⟩) l.length c) rfl rfl ?_
      simp only [Act.put, List.setIfInBounds_toArray, List.set_cons_succ, List.set_cons_zero]
      refine rel_move (v := .int .i64 ((l.length : Int) / 2)) rfl rfl ?_
      simp only [Act.put, List.setIfInBounds_toArray, List.set_cons_succ, List.set_cons_zero]
      refine rel_val (v := .slice (some ⟨b, o + l.length / 2, none⟩) (l.length - l.length / 2) (c - l.length / 2)) rfl (fun w' hw => ?_) ?_
      · go_simp
        omega
      simp only [Act.put, List.setIfInBounds_toArray, List.set_cons_succ, List.set_cons_zero]
      refine rel_call (f := 28) (args := #[.slice (some ⟨b, o + l.length / 2, none⟩) (l.length - l.length / 2) (c - l.length / 2)]) rfl (fun w' hw => ?_) (fun w' hw => ?_) (fun v hv => ?_)
      · go_simp
      · have := IH.out b (o + l.length / 2) (c - l.length / 2) (l.drop (l.length / 2)) w' HK.out.2 ((H.out.below hw).drop _) (by rw [HL.out.2]; omega) (by rw [HL.out.2]; omega)
        rw [HL.out.2] at this
        refine this.mono ?_
        rintro y w'' ⟨⟨r, rfl, hr⟩, hb⟩
        exact ⟨_, rfl, ⟨fun h => absurd h.symm HD.out, fun _ => ⟨r, rfl, hr⟩⟩, below_trans hw hb⟩
      obtain ⟨r2, rfl, u2, e2⟩ := hv.2 rfl
      simp only [Act.put, List.setIfInBounds_toArray, List.set_cons_succ, List.set_cons_zero]
      refine rel_set (R := RetV (opP .add (pl r1) (pl r2))) rfl (fun w' hw => ⟨.float .f64 (fop .add r1 r2 w'), w'.drewN (fopN .add r1 r2), ?_, Bd hw _, ⟨_, rfl, U_fop _ _ _ _, pl_fop _ _ _ _ u1 u2⟩⟩) ?_
      · have hf := fun w => run_fop (P := Try.prog) .add rfl 24 r1 r2 w
        go_simp
      rintro v ⟨r3, rfl, u3, e3⟩
      simp only [Act.put, List.setIfInBounds_toArray, List.set_cons_succ, List.set_cons_zero]
      refine rel_assign (v := .float .f64 r3) rfl rfl ?_
      simp only [Act.put, List.setIfInBounds_toArray, List.set_cons_succ, List.set_cons_zero]
      refine rel_nil ?_
      intro w3 hB
      have HR := Lib.hid (And.intro u3 (show pl r3 = opP .add (pairsP (l.take (l.length / 2))) (pairsP (l.drop (l.length / 2))) by rw [e3, e1, e2]))
      have HB := Lib.hid hB
      clear hB e1 e2 e3 u1 u2 u3
      go_wp2
      go_ret
      exact ⟨⟨r3, rfl, HR.out⟩, HB.out⟩
end Go.Proofs.Ytelalledjbeenaa

namespace Go.Proofs.Ytelalledjbeenaa
open Go.RowKit Fl

set_option maxRecDepth 100000 in
set_option maxHeartbeats 1000000 in
theorem c27z (A : Option Addr) (c : Nat) (w : World) : Calls Try.prog 27 #[.slice A 0 c] w fun e w' => RetF (-1) e ∧ Below w.heap.size w w' := by
  have st1 : ∀ v : Nat, (store ⟨w.heap.size, 0, none⟩ (.float .f64 v)).run Try.prog ((w.alloc (.cells #[.float .f64 0] 24)).alloc (.cells #[.float .f64 0] 24)) = .ok () (((w.alloc (.cells #[.float .f64 0] 24)).alloc (.cells #[.float .f64 0] 24)).setCell ⟨w.heap.size, 0, none⟩ (.float .f64 v)) := fun v => by
    have hb := (Below.refl (w.alloc (.cells #[.float .f64 0] 24)).heap.size (w.alloc (.cells #[.float .f64 0] 24))).alloc (Nat.le_refl _) (.cells #[.float .f64 0] 24)
    have k : ((w.alloc (.cells #[.float .f64 0] 24)).alloc (.cells #[.float .f64 0] 24)).cell? ⟨w.heap.size, 0, none⟩ = some (.float .f64 0) := (hb.cell (p := ⟨w.heap.size, 0, none⟩) (by simp)).trans ((World.cell?_alloc_new w #[.float .f64 0] 24 0).trans rfl)
    have f : ((w.alloc (.cells #[.float .f64 0] 24)).alloc (.cells #[.float .f64 0] 24)).frozen? ⟨w.heap.size, 0, none⟩ = false := (hb.frozen (p := ⟨w.heap.size, 0, none⟩) (by simp)).trans (by simp [go_sem])
    rw [run_store Try.prog _ _ _ _ rfl, k, f]; rfl
  have st2 : (store ⟨w.heap.size + 1, 0, none⟩ (.float .f64 0)).run Try.prog ((w.alloc (.cells #[.float .f64 9223372036854775808] 24)).alloc (.cells #[.float .f64 0] 24)) = .ok () (((w.alloc (.cells #[.float .f64 9223372036854775808] 24)).alloc (.cells #[.float .f64 0] 24)).setCell ⟨w.heap.size + 1, 0, none⟩ (.float .f64 0)) := by
    have hs : (w.alloc (.cells #[.float .f64 9223372036854775808] 24)).heap.size = w.heap.size + 1 := by simp
    have k : ((w.alloc (.cells #[.float .f64 9223372036854775808] 24)).alloc (.cells #[.float .f64 0] 24)).cell? ⟨w.heap.size + 1, 0, none⟩ = some (.float .f64 0) := by
      rw [← hs]; exact (World.cell?_alloc_new (w.alloc (.cells #[.float .f64 9223372036854775808] 24)) #[.float .f64 0] 24 0).trans rfl
    have f : ((w.alloc (.cells #[.float .f64 9223372036854775808] 24)).alloc (.cells #[.float .f64 0] 24)).frozen? ⟨w.heap.size + 1, 0, none⟩ = false := by
      rw [← hs]; simp [go_sem]
    rw [run_store Try.prog _ _ _ _ rfl, k, f]; rfl
  go_enter Try.func27, Try.ntmps27
  go_wp2_with (first | (go_at_call 131; refine (c131 _).mono ?_; rintro e w' ⟨rfl, rfl⟩))
  go_loopw [12] (fun i wx => i = .int .i64 0 ∧ Hid (HeldAt wx w.heap.size 9223372036854775808 0) ∧ Hid (Below w.heap.size w wx)) (fun i _ => 1 - (intOf i).toNat)
  case atStart => exact ⟨rfl, Lib.hid (held_start w), Lib.hid (((Below.refl _ _).alloc (Nat.le_refl _) _).alloc (by simp) _)⟩
  case round =>
    obtain ⟨rfl, hC, hB⟩ := hrel
    have k1 := hC.out.k1
    have k2 := hC.out.k2
    have e0 : (FloatKind.f64.format.order 0 0 == some Ordering.eq) = true := by decide
    have hA := fun wx => c130 9223372036854775808 wx (by unfold U; decide)
    have hN := fun wx => c129 9223372036854775808 wx (by unfold U; decide)
    rw [show isI 9223372036854775808 = false by decide] at hA
    rw [show isN 9223372036854775808 = false by decide] at hN
    have HA := Lib.hid hA
    have HN := Lib.hid hN
    clear hA hN st1 st2
    go_wp2_with (first | (go_at_call 130; refine (HA.out _).mono ?_; rintro e w' ⟨rfl, rfl⟩) | (go_at_call 129; refine (HN.out _).mono ?_; rintro e w' ⟨rfl, rfl⟩))
    go_ret
    exact ⟨⟨_, rfl, by unfold U; decide, by decide⟩, hB.out⟩
set_option maxRecDepth 100000 in
theorem c28z (A : Option Addr) (c : Nat) (w : World) : Calls Try.prog 28 #[.slice A 0 c] w fun e w' => RetF (-1) e ∧ w = w' := by
  go_enter Try.func28, Try.ntmps28
  go_wp2_with (go_at_call 26; refine (c26z _ _ _).mono ?_; rintro e w' ⟨rfl, rfl⟩)
  go_ret
  exact ⟨⟨_, rfl, by unfold U; decide, by decide⟩, rfl⟩

/-- the block of a slice that is laid -/
theorem FL_new (w : World) (l : List Nat) (h : ∀ x ∈ l, U x) : FL (w.alloc (.cells (l.map (Value.float .f64)).toArray 24)) w.heap.size 0 l :=
  ⟨fun j x hj => by
    rw [Nat.zero_add, World.cell?_alloc_new w _ 24 j, List.getElem?_toArray, List.getElem?_map, hj]; rfl,
   fun j x hj => h x (List.mem_of_getElem? hj), by simp⟩
theorem word_of_place {x y : Nat} (hx : U x) (hy : U y) (h : pl x = pl y) (hn : isN y = false) : x = y := by
  rcases (pl_eq_iff hx hy).1 h with h | h
  · exact h
  · rw [hn] at h; exact absurd h.2 Bool.false_ne_true
def awakeL : List Nat := [6103021453049119613, 4607182418800017408, 15326393489903895421]
set_option maxRecDepth 100000 in
set_option maxHeartbeats 1000000 in
theorem c22 (w : World) : Calls Try.prog 22 #[] w fun e w' => e = .returned (.bool true) ∧ Below w.heap.size w w' := by
  have F0 := FL_new w awakeL (by intro x hx; simp only [awakeL, List.mem_cons, List.not_mem_nil, or_false] at hx; rcases hx with rfl | rfl | rfl <;> (unfold U; decide))
  have H0 : Hid (FL (w.alloc (.cells #[.float .f64 6103021453049119613, .float .f64 4607182418800017408, .float .f64 15326393489903895421] 24)) w.heap.size 0 awakeL) := Lib.hid F0
  clear F0
  go_enter Try.func22, Try.ntmps22
  go_wp2_with (go_at_call 26; fail)
  refine (c26z _ _ _).mono ?_
  rintro e w' ⟨rfl, rfl⟩
  go_wp2_with (go_at_call 26; fail)
  refine (c26 w.heap.size 0 3 awakeL _ H0.out (by decide)).mono ?_
  rintro e w1 ⟨⟨r1, rfl, u1, hr1⟩, hb1⟩
  have F1 := Lib.hid (H0.out.below hb1)
  have e1 := f_eq r1 0 u1 (by unfold U; decide)
  rw [hr1, show plainP awakeL = 0 by decide +kernel, show feqP 0 (pl 0) = true by decide] at e1
  have B1 : Hid (Below w.heap.size w w1) := Lib.hid (((Below.refl _ _).alloc (Nat.le_refl _) _).trans (hb1.mono (by simp)))
  clear hb1 u1 hr1 H0
  go_wp2_with (go_at_call 27; fail)
  refine (c27 w.heap.size 0 3 awakeL _ F1.out (by decide)).mono ?_
  rintro e w2 ⟨⟨r2, rfl, u2, hr2⟩, hb2⟩
  have e2 := f_eq r2 4607182418800017408 u2 (by unfold U; decide)
  rw [hr2, show heldP awakeL = 4607182418800017408 by decide +kernel, show feqP 4607182418800017408 (pl 4607182418800017408) = true by decide] at e2
  have B2 := Lib.hid (below_trans B1.out hb2)
  clear hb2 u2 hr2 B1 F1
  go_wp2_with (go_at_call 25; fail)
  refine (c25 4845873199050653696 4607182418800017408 _ (by unfold U; decide) (by unfold U; decide)).mono ?_
  rintro e w3 ⟨⟨s, t, rfl, us, hs, ut, ht⟩, hb3⟩
  obtain rfl : s = 4845873199050653696 := word_of_place us (by unfold U; decide) (by rw [hs]; decide +kernel) (by decide)
  have e3 : (FloatKind.f64.format.order 4845873199050653696 4845873199050653696 == some Ordering.eq) = true := by decide
  have e4 := f_eq t 4607182418800017408 ut (by unfold U; decide)
  rw [ht, show lossP 4845873199050653696 4607182418800017408 4845873199050653696 = 4607182418800017408 by decide +kernel, show feqP 4607182418800017408 (pl 4607182418800017408) = true by decide] at e4
  have B3 := Lib.hid (below_trans B2.out hb3)
  clear hb3 us hs ut ht B2
  go_wp2_with (go_at_call 35; fail)
  refine (c35 _).mono ?_
  rintro e w4 ⟨rfl, ha, hb, hz⟩
  have A4 := Lib.hid ha
  have B4 := Lib.hid (below_trans B3.out hb)
  have S4 := Lib.hid hz
  have L4 := Lib.hid B3.out.size
  clear ha hb hz B3
  generalize w3.heap.size = c at *
  go_wp2_with (go_at_call 37; fail)
  refine (c37 _ _ 6103021453049119613 _ (by unfold U; decide) A4.out S4.out).mono ?_
  rintro e w5 ⟨rfl, ha, ho⟩
  have A5 := Lib.hid ha
  have B5 := Lib.hid (ho.below L4.out B4.out.size B4.out)
  have S5 := Lib.hid (Nat.lt_of_lt_of_le S4.out ho.size)
  clear ha ho A4 B4 S4
  go_wp2_with (go_at_call 37; fail)
  refine (c37 _ _ 4607182418800017408 _ (by unfold U; decide) A5.out S5.out).mono ?_
  rintro e w6 ⟨rfl, ha, ho⟩
  have A6 := Lib.hid ha
  have B6 := Lib.hid (ho.below L4.out B5.out.size B5.out)
  have S6 := Lib.hid (Nat.lt_of_lt_of_le S5.out ho.size)
  clear ha ho A5 B5 S5
  go_wp2_with (go_at_call 37; fail)
  refine (c37 _ _ 15326393489903895421 _ (by unfold U; decide) A6.out S6.out).mono ?_
  rintro e w7 ⟨rfl, ha, ho⟩
  have A7 : Hid (AccAt w7 c (accS awakeL)) := Lib.hid ha
  have B7 := Lib.hid (ho.below L4.out B6.out.size B6.out)
  have S7 := Lib.hid (Nat.lt_of_lt_of_le S6.out ho.size)
  clear ha ho A6 B6 S6
  go_wp2_with (go_at_call 39; fail)
  refine (c39 _ _ _ A7.out S7.out (acc_small awakeL (by decide)).1 (acc_small awakeL (by decide)).2).mono ?_
  rintro e w8 ⟨⟨r, rfl, hu, hr⟩, hb⟩
  have B8 := Lib.hid (below_trans B7.out hb)
  have e5 := f_eq r 4607182418800017408 hu (by unfold U; decide)
  rw [hr, show pV (accS awakeL) = 4607182418800017408 by decide +kernel, show feqP 4607182418800017408 (pl 4607182418800017408) = true by decide] at e5
  have e6 : (FloatKind.f64.format.order 9223372036854775808 0 == some Ordering.eq) = true := by decide
  have hq := fun w => run_float_arith (P := Try.prog) w .quo 24 .f64 4607182418800017408 9223372036854775808 18442240474082181120 (by decide)
  have e7 : (FloatKind.f64.format.order 18442240474082181120 0 == some Ordering.lt) = true := by decide
  clear hb hu hr A7 B7 S7 L4
  go_wp2
  go_ret
  exact ⟨rfl, B8.out⟩
end Go.Proofs.Ytelalledjbeenaa
