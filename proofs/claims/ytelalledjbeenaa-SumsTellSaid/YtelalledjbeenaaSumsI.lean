/- Pairs. -/
import Derived.Test.YtelalledjbeenaaSumsH
import Derived.Test.YtelalledjbeenaaSumR
namespace Go.Proofs.Ytelalledjbeenaa
open Go.RowKit Fl

theorem FL.take {w : World} {b o : Nat} {l : List Nat} (h : FL w b o l) (k : Nat) : FL w b o (l.take k) :=
  ⟨fun j x hj => h.cell j x (by rw [List.getElem?_take] at hj; split at hj; exact hj; cases hj), fun j x hj => h.u j x (by rw [List.getElem?_take] at hj; split at hj; exact hj; cases hj), h.lt⟩
theorem FL.drop {w : World} {b o : Nat} {l : List Nat} (h : FL w b o l) (k : Nat) : FL w b (o + k) (l.drop k) :=
  ⟨fun j x hj => by rw [Nat.add_assoc]; exact h.cell (k + j) x (by rw [List.getElem?_drop] at hj; exact hj), fun j x hj => h.u (k + j) x (by rw [List.getElem?_drop] at hj; exact hj), h.lt⟩
def RetV (p : Int) (v : Value) : Prop := ∃ r, v = .float .f64 r ∧ U r ∧ pl r = p

set_option maxRecDepth 100000 in
set_option maxHeartbeats 1000000 in
theorem c28s (b o c : Nat) (l : List Nat) (w : World) (h : FL w b o l) (hl : l.length ≤ 2) :
    Calls Try.prog 28 #[.slice (some ⟨b, o, none⟩) l.length c] w fun e w' => RetF (pairsP l) e ∧ Below w.heap.size w w' := by
  have hp : pairsP l = plainP l := by rw [pairsP, if_pos hl]
  have HP := Lib.hid hp
  have h2 : (l.length : Int) ≤ 2 := by omega
  have H26 := Lib.hid (fun wx (hx : FL wx b o l) => c26 b o c l wx hx (by omega))
  have H := Lib.hid h
  clear h hp hl
  rw [HP.out]
  go_enter Try.func28, Try.ntmps28
  go_wp2_with (go_at_call 26; fail)
  refine (H26.out _ H.out).mono ?_
  rintro e w2 ⟨⟨r, rfl, hu, hr⟩, hb⟩
  have HU := Lib.hid (And.intro hu hr)
  have HB := Lib.hid hb
  clear hu hr hb
  go_wp2
  go_ret
  exact ⟨⟨r, rfl, HU.out⟩, HB.out⟩

def pairsG (b o c : Nat) (l : List Nat) (_f : FuncId) (args : Array Value) (v : Value) : Prop :=
  (args = #[.slice (some ⟨b, o, none⟩) (l.length / 2) c] → RetV (pairsP (l.take (l.length / 2))) v) ∧
  (args = #[.slice (some ⟨b, o + l.length / 2, none⟩) (l.length - l.length / 2) (c - l.length / 2)] → RetV (pairsP (l.drop (l.length / 2))) v)
set_option maxRecDepth 100000 in
set_option maxHeartbeats 1000000 in
theorem c28 (n : Nat) : ∀ (b o c : Nat) (l : List Nat) (w : World), l.length ≤ n → FL w b o l → l.length ≤ c → l.length < 4611686018427387904 →
    Calls Try.prog 28 #[.slice (some ⟨b, o, none⟩) l.length c] w fun e w' => RetF (pairsP l) e ∧ Below w.heap.size w w' := by
  induction n with
  | zero => intro b o c l w hn h _ _; exact c28s b o c l w h (by omega)
  | succ n ih =>
    intro b o c l w hn h hc hc2
    by_cases h2 : l.length ≤ 2
    · exact c28s b o c l w h h2
    · have hp : pairsP l = opP .add (pairsP (l.take (l.length / 2))) (pairsP (l.drop (l.length / 2))) := by rw [pairsP, if_neg h2]
      have HP := Lib.hid hp
      have IH := Lib.hid ih
      have H := Lib.hid h
      have HK := Lib.hid (And.intro (show (l.take (l.length / 2)).length ≤ n by rw [List.length_take]; omega) (show (l.drop (l.length / 2)).length ≤ n by rw [List.length_drop]; omega))
      have HL := Lib.hid (And.intro (show (l.take (l.length / 2)).length = l.length / 2 by rw [List.length_take]; omega) (show (l.drop (l.length / 2)).length = l.length - l.length / 2 by rw [List.length_drop]))
      have a1 : (0 : Int) ≤ (l.length : Int) / 2 := by omega
      have a2 : (l.length : Int) / 2 ≤ (l.length : Int) := by omega
      have a3 : (l.length : Int) ≤ (c : Int) := by omega
      have a4 : ¬ (l.length : Int) ≤ 2 := by omega
      have HD : Hid (¬ (#[.slice (some ⟨b, o, none⟩) (l.length / 2) c] : Array Value) = #[.slice (some ⟨b, o + l.length / 2, none⟩) (l.length - l.length / 2) (c - l.length / 2)]) := Lib.hid (by intro h; injection h with h; injection h with h; injection h with h; injection h; omega)
      clear hp ih h hn
      rw [HP.out]
      go_enter Try.func28, Try.ntmps28
      go_wp2_with fail
      refine wp_region_rel 10 (fun w' => Below w.heap.size w w') (pairsG b o c l) (by kernel_rfl) (by kernel_rfl) ((Below.refl _ _).drew) ?_
      simp only [List.take_succ_cons, List.take_zero, List.drop_succ_cons, List.drop_zero]
      refine rel_move (v := .slice (some ⟨b, o, none⟩) l.length c) rfl rfl ?_
      simp only [Act.put, List.setIfInBounds_toArray, List.set_cons_succ, List.set_cons_zero]
      refine rel_move (v := .int .i64 ((l.length : Int) / 2)) rfl rfl ?_
      simp only [Act.put, List.setIfInBounds_toArray, List.set_cons_succ, List.set_cons_zero]
      have t1 : ((l.length : Int) / 2).toNat = l.length / 2 := by omega
      have a5 : (l.length : Int) / 2 ≤ (c : Int) := by omega
      refine rel_val (v := .slice (some ⟨b, o, none⟩) (l.length / 2) c) rfl (fun w' hw => ?_) ?_
      · go_simp
      simp only [Act.put, List.setIfInBounds_toArray, List.set_cons_succ, List.set_cons_zero]
      refine rel_call (f := 28) (args := #[.slice (some ⟨b, o, none⟩) (l.length / 2) c]) rfl (fun w' hw => ?_) (fun w' hw => ?_) (fun v hv => ?_)
      · go_simp
      · have := IH.out b o c (l.take (l.length / 2)) w' HK.out.1 ((H.out.below hw).take _) (by rw [HL.out.1]; omega) (by rw [HL.out.1]; omega)
        rw [HL.out.1] at this
        refine this.mono ?_
        rintro y w'' ⟨⟨r, rfl, hr⟩, hb⟩
        exact ⟨_, rfl, ⟨fun _ => ⟨r, rfl, hr⟩, fun h => absurd h HD.out⟩, below_trans hw hb⟩
      obtain ⟨r1, rfl, u1, e1⟩ := hv.1 rfl
      simp only [Act.put, List.setIfInBounds_toArray, List.set_cons_succ, List.set_cons_zero]
      refine rel_move (v := .slice (some ⟨b, o, none⟩) l.length c) rfl rfl ?_
      simp only [Act.put, List.setIfInBounds_toArray, List.set_cons_succ, List.set_cons_zero]
      refine rel_move (v := .int .i64 ((l.length : Int) / 2)) rfl rfl ?_
      simp only [Act.put, List.setIfInBounds_toArray, List.set_cons_succ, List.set_cons_zero]
      refine rel_val (v := .slice (some ⟨b, o + l.length / 2, none⟩) (l.length - l.length / 2) (c - l.length / 2)) rfl (fun w' hw => ?_) ?_
      · go_simp
        omega
      simp only [Act.put, List.setIfInBounds_toArray, List.set_cons_succ, List.set_cons_zero]
      refine rel_call (f := 28) (args := #[.slice (some ⟨b, o + l.length / 2, none⟩) (l.length - l.length / 2) (c - l.length / 2)]) rfl (fun w' hw => ?_) (fun w' hw => ?_) (fun v hv => ?_)
      · go_simp
      · have := IH.out b (o + l.length / 2) (c - l.length / 2) (l.drop (l.length / 2)) w' HK.out.2 ((H.out.below hw).drop _) (by rw [HL.out.2]; omega) (by rw [HL.out.2]; omega)
        rw [HL.out.2] at this
        refine this.mono ?_
        rintro y w'' ⟨⟨r, rfl, hr⟩, hb⟩
        exact ⟨_, rfl, ⟨fun h => absurd h.symm HD.out, fun _ => ⟨r, rfl, hr⟩⟩, below_trans hw hb⟩
      obtain ⟨r2, rfl, u2, e2⟩ := hv.2 rfl
      simp only [Act.put, List.setIfInBounds_toArray, List.set_cons_succ, List.set_cons_zero]
      refine rel_set (R := RetV (opP .add (pl r1) (pl r2))) rfl (fun w' hw => ⟨.float .f64 (fop .add r1 r2 w'), w'.drewN (fopN .add r1 r2), ?_, Bd hw _, ⟨_, rfl, U_fop _ _ _ _, pl_fop _ _ _ _ u1 u2⟩⟩) ?_
      · have hf := fun w => run_fop (P := Try.prog) .add rfl 24 r1 r2 w
        go_simp
      rintro v ⟨r3, rfl, u3, e3⟩
      simp only [Act.put, List.setIfInBounds_toArray, List.set_cons_succ, List.set_cons_zero]
      refine rel_assign (v := .float .f64 r3) rfl rfl ?_
      simp only [Act.put, List.setIfInBounds_toArray, List.set_cons_succ, List.set_cons_zero]
      refine rel_nil ?_
      intro w3 hB
      have HR := Lib.hid (And.intro u3 (show pl r3 = opP .add (pairsP (l.take (l.length / 2))) (pairsP (l.drop (l.length / 2))) by rw [e3, e1, e2]))
      have HB := Lib.hid hB
      clear hB e1 e2 e3 u1 u2 u3
      go_wp2
      go_ret
      exact ⟨⟨r3, rfl, HR.out⟩, HB.out⟩
end Go.Proofs.Ytelalledjbeenaa
