/- Plain, and a list of floats in memory. -/
import Derived.Test.YtelalledjbeenaaAccJ
namespace Go.Proofs.Ytelalledjbeenaa
open Go.RowKit Fl

/-- a list of floats lies in block b from o on -/
structure FL (w : World) (b o : Nat) (l : List Nat) : Prop where
  cell : ∀ j x : Nat, l[j]? = some x → w.cell? ⟨b, o + j, none⟩ = some (.float .f64 x)
  u : ∀ j x : Nat, l[j]? = some x → U x
  lt : b < w.heap.size
theorem FL.below {w w' : World} {b o : Nat} {l : List Nat} (h : FL w b o l) (hb : Below w.heap.size w w') : FL w' b o l :=
  ⟨fun j x hj => (hb.cell (p := ⟨b, o + j, none⟩) h.lt).trans (h.cell j x hj), h.u, Nat.lt_of_lt_of_le h.lt hb.size⟩
/-- the place of the plain sum -/
def plainP (l : List Nat) : Int := l.foldl (fun p x => opP .add p (pl x)) (-1)
theorem plainP_take (l : List Nat) (k x : Nat) (h : l[k]? = some x) : plainP (l.take (k + 1)) = opP .add (plainP (l.take k)) (pl x) := by
  unfold plainP
  rw [List.take_add_one, h, List.foldl_append]; rfl
set_option maxRecDepth 100000 in
set_option maxHeartbeats 1000000 in
theorem c26 (b o c : Nat) (l : List Nat) (w : World) (h : FL w b o l) (hl : l.length < 4611686018427387904) :
    Calls Try.prog 26 #[.slice (some ⟨b, o, none⟩) l.length c] w fun e w' => RetF (plainP l) e ∧ Below w.heap.size w w' := by
  have H := Lib.hid h
  have HL := Lib.hid hl
  go_enter Try.func26, Try.ntmps26
  go_wp2_with (first | (go_at_call 131; refine (c131 _).mono ?_; rintro e w' ⟨rfl, rfl⟩))
  go_loopw [3, 9] (fun v i wx => ∃ (k r : Nat), k ≤ l.length ∧ i = .int .i64 k ∧ v = .float .f64 r ∧ Hid (U r ∧ pl r = plainP (l.take k)) ∧ Hid (Below w.heap.size w wx)) (fun _ i _ => l.length - (intOf i).toNat)
  case atStart => exact ⟨0, 9223372036854775808, by omega, rfl, rfl, Lib.hid ⟨by unfold U; decide, by rw [List.take_zero]; decide⟩, Lib.hid (Below.refl _ _)⟩
  case round =>
    obtain ⟨k, r, hk, rfl, rfl, hr, hB⟩ := hrel
    by_cases hlt : k < l.length
    · have hki : (k : Int) < (l.length : Int) := by omega
      obtain ⟨x, hx⟩ : ∃ x, l[k]? = some x := ⟨l[k], List.getElem?_eq_getElem hlt⟩
      have HX := Lib.hid hx
      have HLT := Lib.hid hlt
      have B2 := Lib.hid (Bd hB.out (fopN .add r x))
      have R2 : Hid (∀ wx : World, U (fop .add r x wx) ∧ pl (fop .add r x wx) = plainP (l.take (k + 1))) := Lib.hid fun wx => ⟨U_fop _ _ _ _, by rw [pl_fop .add r x wx hr.out.1 (H.out.u k x hx), hr.out.2, plainP_take l k x hx]⟩
      have kc := (H.out.below hB.out).cell k x hx
      have hf := fun w => run_fop (P := Try.prog) .add rfl 24 r x w
      clear hx h hlt
      go_wp2
      go_roundw
      case rel => exact ⟨k + 1, _, by have := HLT.out; omega, by go_num, rfl, Lib.hid (R2.out _), B2⟩
      case measure => have := HLT.out; simp [intOf]; omega
    · have hki : ¬ (k : Int) < (l.length : Int) := by omega
      have hkl : k = l.length := by omega
      have HR : Hid (RetF (plainP l) (.returned (.float .f64 r))) := Lib.hid ⟨r, rfl, hr.out.1, by rw [hr.out.2, hkl, List.take_length]⟩
      clear hlt hkl h
      go_wp2
      go_ret
      exact ⟨HR.out, hB.out⟩
end Go.Proofs.Ytelalledjbeenaa
