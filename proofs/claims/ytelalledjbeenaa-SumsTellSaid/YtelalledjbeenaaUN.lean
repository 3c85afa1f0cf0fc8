/- The reference's Plain, Pairs, Held, Exact of a list. -/
import Derived.Test.YtelalledjbeenaaMgUL
import Derived.Test.YtelalledjbeenaaSumK
namespace Go.Proofs.Ytelalledjbeenaa
open Go.RowKit Fl

theorem b_rg (x : Nat) (h : U x) : bits .and .u64 (x : Int) 9223372036854775807 = ((rg x : Nat) : Int) := by
  rw [show (9223372036854775807 : Int) = ((9223372036854775807 : Nat) : Int) from rfl, u64_and_nat _ _ h.lt (by omega)]
  congr 1
  exact Nat.and_two_pow_sub_one_eq_mod x 63
set_option maxRecDepth 100000 in
/-- a number without its sign -/
theorem c171 (x : Nat) (w : World) (h : U x) : Calls Try.prog 171 #[.float .f64 x] w fun e w' => e = .returned (.float .f64 (rg x)) ∧ w = w' := by
  have E := b_rg x h
  have h1 := fun w => x153 (rg x) w
  clear h
  go_enter Try.func171, Try.ntmps171
  go_wp2_with (first | (go_at_call 128; refine (x128 _ _).mono ?_; rintro e w' ⟨rfl, rfl⟩) | (go_at_call 153; fail))
  go_ret
  exact ⟨rfl, rfl⟩
set_option maxRecDepth 100000 in
set_option maxHeartbeats 1000000 in
theorem c118F (A : Option Addr) (c : Nat) (l : List Nat) (w : World) (h : FS w A l) (hl : l.length < 4611686018427387904) :
    Calls Try.prog 118 #[.slice A l.length c] w fun e w' => RetF (plainP l) e ∧ Below w.heap.size w w' := by
  have H := Lib.hid h
  have HL := Lib.hid hl
  clear h
  go_enter Try.func118, Try.ntmps118
  go_wp2_with (go_at_call 170; refine (c170 true _).mono ?_; rintro e w' ⟨rfl, rfl⟩)
  go_loopw [3, 4] (fun v i wx => ∃ (k r : Nat), k ≤ l.length ∧ i = .int .i64 k ∧ v = .float .f64 r ∧ Hid (U r ∧ pl r = plainP (l.take k)) ∧ Hid (Below w.heap.size w wx)) (fun _ i _ => l.length - (intOf i).toNat)
  case atStart => exact ⟨0, 9223372036854775808, by omega, rfl, rfl, Lib.hid ⟨by unfold U; decide, by rw [List.take_zero]; decide⟩, Lib.hid (Below.refl _ _)⟩
  case round =>
    obtain ⟨k, r, hk, rfl, rfl, hr, hB⟩ := hrel
    by_cases hlt : k < l.length
    · obtain ⟨b, o, rfl, hF⟩ : ∃ b o, A = some ⟨b, o, none⟩ ∧ FL w b o l := H.out.resolve_left (fun e => by rw [e] at hlt; exact absurd hlt (Nat.not_lt_zero _))
      have hki : (k : Int) < (l.length : Int) := by omega
      obtain ⟨x, hx⟩ : ∃ x, l[k]? = some x := ⟨l[k], List.getElem?_eq_getElem hlt⟩
      have HX := Lib.hid hx
      have HLT := Lib.hid hlt
      have B2 := Lib.hid (Bd hB.out (fopN .add r x))
      have R2 : Hid (∀ wx : World, U (fop .add r x wx) ∧ pl (fop .add r x wx) = plainP (l.take (k + 1))) := Lib.hid fun wx => ⟨U_fop _ _ _ _, by rw [pl_fop .add r x wx hr.out.1 (hF.u k x hx), hr.out.2, plainP_take l k x hx]⟩
      have kc := (hF.below hB.out).cell k x hx
      have hf := fun w => run_fop (P := Try.prog) .add rfl 24 r x w
      clear hx hlt hF H
      go_wp2
      go_roundw
      case rel => exact ⟨k + 1, _, by have := HLT.out; omega, by go_num, rfl, Lib.hid (R2.out _), B2⟩
      case measure => have := HLT.out; simp [intOf]; omega
    · have hki : ¬ (k : Int) < (l.length : Int) := by omega
      have hkl : k = l.length := by omega
      have HR : Hid (RetF (plainP l) (.returned (.float .f64 r))) := Lib.hid ⟨r, rfl, hr.out.1, by rw [hr.out.2, hkl, List.take_length]⟩
      clear hlt hkl
      go_wp2
      go_ret
      exact ⟨HR.out, hB.out⟩
theorem c118 (b o c : Nat) (l : List Nat) (w : World) (h : FL w b o l) (hl : l.length < 4611686018427387904) :
    Calls Try.prog 118 #[.slice (some ⟨b, o, none⟩) l.length c] w fun e w' => RetF (plainP l) e ∧ Below w.heap.size w w' := c118F _ c l w (.inr ⟨b, o, rfl, h⟩) hl
set_option maxRecDepth 100000 in
set_option maxHeartbeats 1000000 in
theorem c119s (b o c : Nat) (l : List Nat) (w : World) (h : FL w b o l) (hl : l.length ≤ 2) :
    Calls Try.prog 119 #[.slice (some ⟨b, o, none⟩) l.length c] w fun e w' => RetF (pairsP l) e ∧ Below w.heap.size w w' := by
  have hp : pairsP l = plainP l := by rw [pairsP, if_pos hl]
  have HP := Lib.hid hp
  have h2 : (l.length : Int) ≤ 2 := by omega
  have H118 := Lib.hid (fun wx (hx : FL wx b o l) => c118 b o c l wx hx (by omega))
  have H := Lib.hid h
  clear h hp hl
  rw [HP.out]
  go_enter Try.func119, Try.ntmps119
  go_wp2_with (go_at_call 118; fail)
  refine (H118.out _ H.out).mono ?_
  rintro e w2 ⟨⟨r, rfl, hu, hr⟩, hb⟩
  have HU := Lib.hid (And.intro hu hr)
  have HB := Lib.hid hb
  clear hu hr hb
  go_wp2
  go_ret
  exact ⟨⟨r, rfl, HU.out⟩, HB.out⟩

def pairsG119 (b o c : Nat) (l : List Nat) (_f : FuncId) (args : Array Value) (v : Value) : Prop :=
  (args = #[.slice (some ⟨b, o, none⟩) (l.length / 2) c] → RetV (pairsP (l.take (l.length / 2))) v) ∧
  (args = #[.slice (some ⟨b, o + l.length / 2, none⟩) (l.length - l.length / 2) (c - l.length / 2)] → RetV (pairsP (l.drop (l.length / 2))) v)
set_option maxRecDepth 100000 in
set_option maxHeartbeats 1000000 in
theorem c119 (n : Nat) : ∀ (b o c : Nat) (l : List Nat) (w : World), l.length ≤ n → FL w b o l → l.length ≤ c → l.length < 4611686018427387904 →
    Calls Try.prog 119 #[.slice (some ⟨b, o, none⟩) l.length c] w fun e w' => RetF (pairsP l) e ∧ Below w.heap.size w w' := by
  induction n with
  | zero => intro b o c l w hn h _ _; exact c119s b o c l w h (by omega)
  | succ n ih =>
    intro b o c l w hn h hc hc2
    by_cases h2 : l.length ≤ 2
    · exact c119s b o c l w h h2
    · have hp : pairsP l = opP .add (pairsP (l.take (l.length / 2))) (pairsP (l.drop (l.length / 2))) := by rw [pairsP, if_neg h2]
      have HP := Lib.hid hp
      have IH := Lib.hid ih
      have H := Lib.hid h
      have HK := Lib.hid (And.intro (show (l.take (l.length / 2)).length ≤ n by rw [List.length_take]; omega) (show (l.drop (l.length / 2)).length ≤ n by rw [List.length_drop]; omega))
      have HL := Lib.hid (And.intro (show (l.take (l.length / 2)).length = l.length / 2 by rw [List.length_take]; omega) (show (l.drop (l.length / 2)).length = l.length - l.length / 2 by rw [List.length_drop]))
      have a1 : (0 : Int) ≤ (l.length : Int) / 2 := by omega
      have a2 : (l.length : Int) / 2 ≤ (l.length : Int) := by omega
      have a3 : (l.length : Int) ≤ (c : Int) := by omega
      have a4 : ¬ (l.length : Int) ≤ 2 := by omega
      have HD : Hid (¬ (#[.slice (some ⟨b, o, none⟩) (l.length / 2) c] : Array Value) = #[.slice (some ⟨b, o + l.length / 2, none⟩) (l.length - l.length / 2) (c - l.length / 2)]) := Lib.hid (by intro h; injection h with h; injection h with h; injection h with h; injection h; omega)
      clear hp ih h hn
      rw [HP.out]
      go_enter Try.func119, Try.ntmps119
      go_wp2_with fail
      refine wp_region_rel 10 (fun w' => Below w.heap.size w w') (pairsG119 b o c l) (by kernel_rfl) (by kernel_rfl) ((Below.refl _ _).drew) ?_
      simp only [List.take_succ_cons, List.take_zero, List.drop_succ_cons, List.drop_zero]
      refine rel_move (v := .slice (some ⟨b, o, none⟩) l.length c) rfl rfl ?_
      simp only [Act.put, List.setIfInBounds_toArray, List.set_cons_succ, List.set_cons_zero]
      refine rel_move (v := .int .i64 ((l.length : Int) / 2)) rfl rfl ?_
      simp only [Act.put, List.setIfInBounds_toArray, List.set_cons_succ, List.set_cons_zero]
      have t1 : ((l.length : Int) / 2).toNat = l.length / 2 := by omega
      have a5 : (l.length : Int) / 2 ≤ (c : Int) := by omega
      refine rel_val (v := .slice (some ⟨b, o, none⟩) (l.length / 2) c) rfl (fun w' hw => ?_) ?_
      · go_simp
      simp only [Act.put, List.setIfInBounds_toArray, List.set_cons_succ, List.set_cons_zero]
      refine rel_call (f := 119) (args := #[.slice (some ⟨b, o, none⟩) (l.length / 2) c]) rfl (fun w' hw => ?_) (fun w' hw => ?_) (fun v hv => ?_)
      · go_simp
      · have := IH.out b o c (l.take (l.length / 2)) w' HK.out.1 ((H.out.below hw).take _) (by rw [HL.out.1]; omega) (by rw [HL.out.1]; omega)
        rw [HL.out.1] at this
        refine this.mono ?_
        rintro y w'' ⟨⟨r, rfl, hr⟩, hb⟩
        exact ⟨_, rfl, ⟨fun _ => ⟨r, rfl, hr⟩, fun h => absurd h HD.out⟩, below_trans hw hb⟩
      obtain ⟨r1, rfl, u1, e1⟩ := hv.1 rfl
      simp only [Act.put, List.setIfInBounds_toArray, List.set_cons_succ, List.set_cons_zero]
      refine rel_move (v := .slice (some ⟨b, o, none⟩) l.length c) rfl rfl ?_
      simp only [Act.put, List.setIfInBounds_toArray, List.set_cons_succ, List.set_cons_zero]
      refine rel_move (v := .int .i64 ((l.length : Int) / 2)) rfl rfl ?_
      simp only [Act.put, List.setIfInBounds_toArray, List.set_cons_succ, List.set_cons_zero]
      refine rel_val (v := .slice (some ⟨b, o + l.length / 2, none⟩) (l.length - l.length / 2) (c - l.length / 2)) rfl (fun w' hw => ?_) ?_
      · go_simp
        omega
      simp only [Act.put, List.setIfInBounds_toArray, List.set_cons_succ, List.set_cons_zero]
      refine rel_call (f := 119) (args := #[.slice (some ⟨b, o + l.length / 2, none⟩) (l.length - l.length / 2) (c - l.length / 2)]) rfl (fun w' hw => ?_) (fun w' hw => ?_) (fun v hv => ?_)
      · go_simp
      · have := IH.out b (o + l.length / 2) (c - l.length / 2) (l.drop (l.length / 2)) w' HK.out.2 ((H.out.below hw).drop _) (by rw [HL.out.2]; omega) (by rw [HL.out.2]; omega)
        rw [HL.out.2] at this
        refine this.mono ?_
        rintro y w'' ⟨⟨r, rfl, hr⟩, hb⟩
        exact ⟨_, rfl, ⟨fun h => absurd h.symm HD.out, fun _ => ⟨r, rfl, hr⟩⟩, below_trans hw hb⟩
      obtain ⟨r2, rfl, u2, e2⟩ := hv.2 rfl
      simp only [Act.put, List.setIfInBounds_toArray, List.set_cons_succ, List.set_cons_zero]
      refine rel_set (R := RetV (opP .add (pl r1) (pl r2))) rfl (fun w' hw => ⟨.float .f64 (fop .add r1 r2 w'), w'.drewN (fopN .add r1 r2), ?_, Bd hw _, ⟨_, rfl, U_fop _ _ _ _, pl_fop _ _ _ _ u1 u2⟩⟩) ?_
      · have hf := fun w => run_fop (P := Try.prog) .add rfl 24 r1 r2 w
        go_simp
      rintro v ⟨r3, rfl, u3, e3⟩
      simp only [Act.put, List.setIfInBounds_toArray, List.set_cons_succ, List.set_cons_zero]
      refine rel_assign (v := .float .f64 r3) rfl rfl ?_
      simp only [Act.put, List.setIfInBounds_toArray, List.set_cons_succ, List.set_cons_zero]
      refine rel_nil ?_
      intro w3 hB
      have HR := Lib.hid (And.intro u3 (show pl r3 = opP .add (pairsP (l.take (l.length / 2))) (pairsP (l.drop (l.length / 2))) by rw [e3, e1, e2]))
      have HB := Lib.hid hB
      clear hB e1 e2 e3 u1 u2 u3
      go_wp2
      go_ret
      exact ⟨⟨r3, rfl, HR.out⟩, HB.out⟩
theorem c119F (A : Option Addr) (c : Nat) (l : List Nat) (w : World) (h : FS w A l) (hl : l.length ≤ c) (hc : l.length < 4611686018427387904) :
    Calls Try.prog 119 #[.slice A l.length c] w fun e w' => RetF (pairsP l) e ∧ Below w.heap.size w w' := by
  rcases h with rfl | ⟨b, o, rfl, h⟩
  · have e : pairsP [] = plainP [] := by rw [pairsP, if_pos (by simp)]
    rw [e]
    have H118 := Lib.hid (fun wx => c118F A c [] wx (.inl rfl) (by simp))
    go_enter Try.func119, Try.ntmps119
    go_wp2_with (go_at_call 118; fail)
    refine (H118.out _).mono ?_
    rintro e w2 ⟨⟨r, rfl, hu, hr⟩, hb⟩
    have HU := Lib.hid (And.intro hu hr)
    have HB := Lib.hid hb
    clear hu hr hb
    go_wp2
    go_ret
    exact ⟨⟨r, rfl, HU.out⟩, HB.out⟩
  · exact c119 l.length b o c l w (Nat.le_refl _) h hl hc
set_option maxRecDepth 100000 in
set_option maxHeartbeats 1000000 in
theorem c121F (A : Option Addr) (c : Nat) (l : List Nat) (w : World) (h : FS w A l) (hl : l.length < 4611686018427387904) :
    Calls Try.prog 121 #[.slice A l.length c] w fun e w' => RetF (pV (accS l)) e ∧ Below w.heap.size w w' := by
  rcases h with rfl | ⟨b, o, rfl, h⟩
  · have A0 := Lib.hid (sum_new w)
    have B0 := Lib.hid (show Below w.heap.size w (w.alloc (.cells Try.zeroCells110 110)) from (Below.refl _ _).alloc (Nat.le_refl _) _)
    have S0 := Lib.hid (show w.heap.size < (w.alloc (.cells Try.zeroCells110 110)).heap.size by simp)
    go_enter Try.func121, Try.ntmps121
    go_wp2_with fail
    go_loopw [4] (fun i wx => i = .int .i64 0 ∧ Hid (SumAt wx w.heap.size 0 RS.zero) ∧ Hid (Below w.heap.size w wx) ∧ Hid (w.heap.size < wx.heap.size)) (fun i _ => 1 - (intOf i).toNat)
    case atStart => exact ⟨rfl, A0, B0, S0⟩
    case round =>
      obtain ⟨rfl, hA, hB, hS⟩ := hrel
      clear A0 B0 S0
      go_wp2_with (go_at_call 115; fail)
      refine (c115 _ _ _ _ hA.out hS.out (ROK.zero.small (by decide)).1 (ROK.zero.small (by decide)).2).mono ?_
      rintro e w2 ⟨⟨r, rfl, hr⟩, hb2⟩
      have HB := Lib.hid (hB.out.trans (hb2.mono hB.out.size))
      have HR := Lib.hid hr
      clear hb2 hr
      go_wp2
      go_ret
      exact ⟨⟨r, rfl, HR.out⟩, HB.out⟩
  · exact c121 b o c l w h hl
theorem held_stepR (s c x : Nat) (w1 w2 w3 w4 w5 w6 w7 : World) (hs : U s) (hc : U c) (hx : U x) :
    (pl (fop .add s x w1), pl (if fleP (absP (pl x)) (absP (pl s)) = true then fop .add c (fop .add (fop .sub s (fop .add s x w1) w2) x w3) w4 else fop .add c (fop .add (fop .sub x (fop .add s x w1) w5) s w6) w7)) = heldStep (pl s, pl c) x := by
  unfold heldStep heldT heldC heldT
  simp only
  by_cases h : fleP (absP (pl x)) (absP (pl s)) = true
  · rw [if_pos h, if_pos h, pl_fop .add c _ _ hc (U_fop _ _ _ _), pl_fop .add _ x _ (U_fop _ _ _ _) hx, pl_fop .sub s _ _ hs (U_fop _ _ _ _), pl_fop .add s x _ hs hx]
  · rw [if_neg h, if_neg h, pl_fop .add c _ _ hc (U_fop _ _ _ _), pl_fop .add _ s _ (U_fop _ _ _ _) hs, pl_fop .sub x _ _ hx (U_fop _ _ _ _), pl_fop .add s x _ hs hx]
set_option maxRecDepth 100000 in
set_option maxHeartbeats 2000000 in
theorem c120F (A : Option Addr) (c : Nat) (l : List Nat) (w : World) (h : FS w A l) (hl : l.length < 4611686018427387904) :
    Calls Try.prog 120 #[.slice A l.length c] w fun e w' => RetF (heldP l) e ∧ Below w.heap.size w w' := by
  have H := Lib.hid h
  have HL := Lib.hid hl
  clear h
  go_enter Try.func120, Try.ntmps120
  go_wp2_with (go_at_call 170; first | (refine (c170 true _).mono ?_; rintro e w' ⟨rfl, rfl⟩) | (refine (c170 false _).mono ?_; rintro e w' ⟨rfl, rfl⟩))
  go_loopw [3, 4, 5] (fun v u i wx => ∃ (k s t : Nat), k ≤ l.length ∧ i = .int .i64 k ∧ v = .float .f64 s ∧ u = .float .f64 t ∧ Hid (U s ∧ U t ∧ (pl s, pl t) = heldF (l.take k)) ∧ Hid (Below w.heap.size w wx)) (fun _ _ i _ => l.length - (intOf i).toNat)
  case atStart => exact ⟨0, 9223372036854775808, 0, by omega, rfl, rfl, rfl, Lib.hid ⟨by unfold U; decide, by unfold U; decide, by rw [List.take_zero]; rfl⟩, Lib.hid (Below.refl _ _)⟩
  case round =>
    obtain ⟨k, s, t, hk, rfl, rfl, rfl, hP, hB⟩ := hrel
    by_cases hlt : k < l.length
    · obtain ⟨b, o, rfl, hF⟩ : ∃ b o, A = some ⟨b, o, none⟩ ∧ FL w b o l := H.out.resolve_left (fun e => by rw [e] at hlt; exact absurd hlt (Nat.not_lt_zero _))
      have hki : (k : Int) < (l.length : Int) := by omega
      obtain ⟨x, hx⟩ : ∃ x, l[k]? = some x := ⟨l[k], List.getElem?_eq_getElem hlt⟩
      have HLT := Lib.hid hlt
      have UX := Lib.hid (hF.u k x hx)
      have B2 := Lib.hid (fun n => Bd hB.out n)
      have P2 : Hid (∀ w1 w2 w3 w4 w5 w6 w7 : World, (pl (fop .add s x w1), pl (if fleP (absP (pl x)) (absP (pl s)) = true then fop .add t (fop .add (fop .sub s (fop .add s x w1) w2) x w3) w4 else fop .add t (fop .add (fop .sub x (fop .add s x w1) w5) s w6) w7)) = heldF (l.take (k + 1))) := Lib.hid fun w1 w2 w3 w4 w5 w6 w7 => by
        rw [held_stepR s t x w1 w2 w3 w4 w5 w6 w7 hP.out.1 hP.out.2.1 UX.out, hP.out.2.2, heldF_take l k x hx]
      have kc := (hF.below hB.out).cell k x hx
      have hf := fun x y w => run_fop (P := Try.prog) .add rfl 24 x y w
      have hg := fun x y w => run_fop (P := Try.prog) .sub rfl 24 x y w
      have e1 := f_ge (rg s) (rg x) (U_rg s) (U_rg x)
      rw [pl_rg, pl_rg] at e1
      clear hx hlt hF H
      cases hcmp : fleP (absP (pl x)) (absP (pl s))
      · rw [hcmp] at e1 P2
        clear hcmp
        go_wp2_with (go_at_call 171; first | (refine (c171 s _ hP.out.1).mono ?_; rintro e w' ⟨rfl, rfl⟩) | (refine (c171 x _ UX.out).mono ?_; rintro e w' ⟨rfl, rfl⟩))
        go_roundw
        case rel => exact ⟨k + 1, _, _, by have := HLT.out; omega, by go_num, rfl, rfl, Lib.hid ⟨U_fop _ _ _ _, U_fop _ _ _ _, P2.out _ wr wr wr _ _ _⟩, Lib.hid (B2.out _)⟩
        case measure => have := HLT.out; simp [intOf]; omega
      · rw [hcmp] at e1 P2
        clear hcmp
        go_wp2_with (go_at_call 171; first | (refine (c171 s _ hP.out.1).mono ?_; rintro e w' ⟨rfl, rfl⟩) | (refine (c171 x _ UX.out).mono ?_; rintro e w' ⟨rfl, rfl⟩))
        go_roundw
        case rel => exact ⟨k + 1, _, _, by have := HLT.out; omega, by go_num, rfl, rfl, Lib.hid ⟨U_fop _ _ _ _, U_fop _ _ _ _, P2.out _ _ _ _ wr wr wr⟩, Lib.hid (B2.out _)⟩
        case measure => have := HLT.out; simp [intOf]; omega
    · have hki : ¬ (k : Int) < (l.length : Int) := by omega
      have hkl : k = l.length := by omega
      have HP := Lib.hid (heldP_eq l s t (by have := hP.out.2.2; rwa [hkl, List.take_length] at this))
      have HU := Lib.hid (And.intro hP.out.1 hP.out.2.1)
      have e0 := f_eq t 0 hP.out.2.1 (by unfold U; decide)
      rw [show pl 0 = 0 by decide] at e0
      have hf := fun w => run_fop (P := Try.prog) .add rfl 24 s t w
      have F1 : Hid (∀ z, pl s = z → RetF z (.returned (.float .f64 s))) := Lib.hid fun z hz => ⟨s, rfl, HU.out.1, hz⟩
      have F2 : Hid (∀ wx z, opP .add (pl s) (pl t) = z → RetF z (.returned (.float .f64 (fop .add s t wx)))) := Lib.hid fun wx z hz => ⟨_, rfl, U_fop _ _ _ _, by rw [pl_fop .add s t wx HU.out.1 HU.out.2]; exact hz⟩
      have B2 := Lib.hid (fun n => Bd hB.out n)
      have e2 := neq_self s HU.out.1
      have e3 : (FloatKind.f64.format.order s s == some Ordering.eq) = !isN s := by rw [← e2]; simp [bne]
      clear hlt hkl hP
      cases hn : isN s
      · rw [hn] at e2 e3
        cases hfi : fin s
        · have hI : isI s = true := by
            have h1 := isN_false hn
            have h2 := fin_false hfi
            unfold isI; unfold INF at h1 h2; exact decide_eq_true (by omega)
          have R := Lib.hid (F1.out (heldP l) (by rw [HP.out, hI]; rfl))
          have hq := fun w => run_fop (P := Try.prog) .sub rfl 24 s s w
          have hv : ∀ w, (FloatKind.f64.format.order (fop .sub s s w) 0 != some Ordering.eq) = true := fun w => by
            rw [f_ne _ _ (U_fop _ _ _ _) (by unfold U; decide), pl_fop _ _ _ _ HU.out.1 HU.out.1]
            unfold opP
            rw [atW_pl s HU.out.1 hn, sub_self_inf s HU.out.1 hfi]; rfl
          have hv2 : ∀ w, (FloatKind.f64.format.order (fop .sub s s w) 0 == some Ordering.eq) = false := fun w => by
            have := hv w; simpa [bne] using this
          clear hn hfi hI hf
          go_wp2
          go_ret
          exact ⟨R.out, B2.out _⟩
        · have hI : isI s = false := by
            have h2 := fin_true hfi
            unfold isI; unfold INF at h2; exact decide_eq_false (by omega)
          have hq := fun w => run_float_arith (P := Try.prog) w .sub 24 .f64 s s 0 (sub_self_fin s HU.out.1 hfi)
          have hv : (FloatKind.f64.format.order 0 0 != some Ordering.eq) = false := by decide
          cases hz : feqP (pl t) 0
          · rw [hz] at e0
            have R := Lib.hid (fun wx => F2.out wx (heldP l) (by rw [HP.out, hI, hn, hz]; rfl))
            clear hn hfi hI hz
            go_wp2
            go_ret
            exact ⟨R.out _, B2.out _⟩
          · rw [hz] at e0
            have R := Lib.hid (F1.out (heldP l) (by rw [HP.out, hI, hn, hz]; rfl))
            clear hn hfi hI hz
            go_wp2
            go_ret
            exact ⟨R.out, hB.out⟩
      · rw [hn] at e2 e3
        have R := Lib.hid (F1.out (heldP l) (by rw [HP.out, hn, Bool.or_true, Bool.true_or]; rfl))
        clear hn
        go_wp2
        go_ret
        exact ⟨R.out, hB.out⟩
end Go.Proofs.Ytelalledjbeenaa
