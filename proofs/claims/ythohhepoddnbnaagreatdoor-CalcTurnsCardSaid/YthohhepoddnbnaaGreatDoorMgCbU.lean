/- Round of any word and numbers (printed by gen_cbu.py). Round of two numbers; Round of anything, as a function. Round of any word and numbers, as a function. calc: Rem and Mod of any numbers, as functions. CalcTurns: plain laws. -/
import Derived.Test.YthohhepoddnbnaaGreatDoorCbS
import Derived.Test.YthohhepoddnbnaaGreatDoorMgCbT
import Derived.Test.YthohhepoddnbnaaGreatDoorCbP
import Derived.Test.YthohhepoddnbnaaGreatDoorArith
namespace Go.Proofs.YthohhepoddnbnaaGreatDoor
open Go.RowKit Fl

/-- no number comes of these -/
def rndN (x y : Nat) : Prop := isN x = true ∨ isN y = true ∨ FloatKind.f64.format.order y 0 = some .eq ∨ (isI x = true ∧ isI y = true)
instance decRnd (x y : Nat) : Decidable (rndN x y) := by unfold rndN; exact inferInstance
def roundW (k x y : Nat) : Nat := if rndN x y then QN else if isI x = true then x else if isI y = true then farW k x else roundF k x y
theorem rndN_cases {x y : Nat} (h : rndN x y) : isN x = true ∨ (isN x = false ∧ isN y = true) ∨ (isN x = false ∧ isN y = false ∧ FloatKind.f64.format.order y 0 = some .eq) ∨ (isN x = false ∧ isN y = false ∧ FloatKind.f64.format.order y 0 ≠ some .eq ∧ isI x = true ∧ isI y = true) := by
  unfold rndN at h
  cases h1 : isN x
  · cases h2 : isN y
    · by_cases h3 : FloatKind.f64.format.order y 0 = some .eq
      · exact .inr (.inr (.inl ⟨rfl, rfl, h3⟩))
      · rw [h1, h2] at h
        rcases h with h | h | h | h
        · cases h
        · cases h
        · exact absurd h h3
        · exact .inr (.inr (.inr ⟨rfl, rfl, h3, h⟩))
    · exact .inr (.inl ⟨rfl, rfl⟩)
  · exact .inl rfl
theorem known_of {s : ByteArray} (h : WKi s ≠ 4) : Nat.blt (WKi s) 4 = true := by
  rcases WKi_lt s with e | e | e | e | e <;> rw [e] at h ⊢
  all_goals first | rfl | exact absurd rfl h

set_option maxRecDepth 100000 in
set_option maxHeartbeats 4000000 in
theorem lRoundN (s : ByteArray) (x y : Nat) (w : World) (hx : U x) (hy : U y) (hk : WKi s ≠ 4) (h : rndN x y) : Calls Tryz.prog 10 #[.string s, .float .f64 x, .float .f64 y] w fun e w' => e = .returned (.tuple #[.float .f64 QN, .int .i64 0]) ∧ w = w' := by
  have K := lKnown s
  rw [known_of hk] at K
  have K := Lib.hid K
  have C1 := Lib.hid (fun w => c129 x w hx)
  have C2 := Lib.hid (fun w => c129 y w hy)
  have C3 := Lib.hid (fun w => c130 x w hx)
  have C4 := Lib.hid (fun w => c130 y w hy)
  have C5 := Lib.hid (fun w => c135 w)
  have CF := Lib.hid (fun w => lFar s x w hx)
  have o1 := ord_self x hx
  have o2 := ord_self y hy
  have H := rndN_cases h
  clear h hk
  rcases H with h1 | ⟨h1, h2⟩ | ⟨h1, h2, h3⟩ | ⟨h1, h2, h3, h4, h6⟩
  · clear hx hy o2
    rw [h1] at C1
    rw [h1, if_pos rfl] at o1
    go_enter Tryz.func10, Tryz.ntmps10
    go_wp2_with (first
      | (go_at_call 33; with_reducible refine (K.out _).mono ?_; rintro e w' ⟨rfl, rfl⟩)
      | (go_at_call 34; with_reducible refine (C1.out _).mono ?_; rintro e w' ⟨rfl, rfl⟩)
      | (go_at_call 34; with_reducible refine (C2.out _).mono ?_; rintro e w' ⟨rfl, rfl⟩)
      | (go_at_call 35; with_reducible refine (C3.out _).mono ?_; rintro e w' ⟨rfl, rfl⟩)
      | (go_at_call 35; with_reducible refine (C4.out _).mono ?_; rintro e w' ⟨rfl, rfl⟩)
      | (go_at_call 36; refine (C5.out _).mono ?_; rintro e w' ⟨rfl, rfl⟩)
      | (go_at_call 37; with_reducible refine (CF.out _).mono ?_; rintro e w' ⟨rfl, rfl⟩))
    go_ret2
    exact ⟨rfl, rfl⟩
  · clear hx hy
    rw [h1] at C1
    rw [h1, if_neg (by decide)] at o1
    rw [h2] at C2
    rw [h2, if_pos rfl] at o2
    go_enter Tryz.func10, Tryz.ntmps10
    go_wp2_with (first
      | (go_at_call 33; with_reducible refine (K.out _).mono ?_; rintro e w' ⟨rfl, rfl⟩)
      | (go_at_call 34; with_reducible refine (C1.out _).mono ?_; rintro e w' ⟨rfl, rfl⟩)
      | (go_at_call 34; with_reducible refine (C2.out _).mono ?_; rintro e w' ⟨rfl, rfl⟩)
      | (go_at_call 35; with_reducible refine (C3.out _).mono ?_; rintro e w' ⟨rfl, rfl⟩)
      | (go_at_call 35; with_reducible refine (C4.out _).mono ?_; rintro e w' ⟨rfl, rfl⟩)
      | (go_at_call 36; refine (C5.out _).mono ?_; rintro e w' ⟨rfl, rfl⟩)
      | (go_at_call 37; with_reducible refine (CF.out _).mono ?_; rintro e w' ⟨rfl, rfl⟩))
    go_ret2
    exact ⟨rfl, rfl⟩
  · clear hx hy
    rw [h1] at C1
    rw [h1, if_neg (by decide)] at o1
    rw [h2] at C2
    rw [h2, if_neg (by decide)] at o2
    go_enter Tryz.func10, Tryz.ntmps10
    go_wp2_with (first
      | (go_at_call 33; with_reducible refine (K.out _).mono ?_; rintro e w' ⟨rfl, rfl⟩)
      | (go_at_call 34; with_reducible refine (C1.out _).mono ?_; rintro e w' ⟨rfl, rfl⟩)
      | (go_at_call 34; with_reducible refine (C2.out _).mono ?_; rintro e w' ⟨rfl, rfl⟩)
      | (go_at_call 35; with_reducible refine (C3.out _).mono ?_; rintro e w' ⟨rfl, rfl⟩)
      | (go_at_call 35; with_reducible refine (C4.out _).mono ?_; rintro e w' ⟨rfl, rfl⟩)
      | (go_at_call 36; refine (C5.out _).mono ?_; rintro e w' ⟨rfl, rfl⟩)
      | (go_at_call 37; with_reducible refine (CF.out _).mono ?_; rintro e w' ⟨rfl, rfl⟩))
    go_ret2
    exact ⟨rfl, rfl⟩
  · clear hx hy
    rw [h1] at C1
    rw [h1, if_neg (by decide)] at o1
    rw [h2] at C2
    rw [h2, if_neg (by decide)] at o2
    have h5 : (FloatKind.f64.format.order y 0 == some .eq) = false := beq_eq_false_iff_ne.2 h3
    rw [h4] at C3
    rw [h6] at C4
    go_enter Tryz.func10, Tryz.ntmps10
    go_wp2_with (first
      | (go_at_call 33; with_reducible refine (K.out _).mono ?_; rintro e w' ⟨rfl, rfl⟩)
      | (go_at_call 34; with_reducible refine (C1.out _).mono ?_; rintro e w' ⟨rfl, rfl⟩)
      | (go_at_call 34; with_reducible refine (C2.out _).mono ?_; rintro e w' ⟨rfl, rfl⟩)
      | (go_at_call 35; with_reducible refine (C3.out _).mono ?_; rintro e w' ⟨rfl, rfl⟩)
      | (go_at_call 35; with_reducible refine (C4.out _).mono ?_; rintro e w' ⟨rfl, rfl⟩)
      | (go_at_call 36; refine (C5.out _).mono ?_; rintro e w' ⟨rfl, rfl⟩)
      | (go_at_call 37; with_reducible refine (CF.out _).mono ?_; rintro e w' ⟨rfl, rfl⟩))
    go_ret2
    exact ⟨rfl, rfl⟩

set_option maxRecDepth 100000 in
set_option maxHeartbeats 4000000 in
theorem lRoundI (s : ByteArray) (x y : Nat) (w : World) (hx : U x) (hy : U y) (hk : WKi s ≠ 4) (h1 : isN x = false) (h2 : isN y = false) (h3 : ¬ FloatKind.f64.format.order y 0 = some .eq) (h4 : isI x = true) (h6 : isI y = false) : Calls Tryz.prog 10 #[.string s, .float .f64 x, .float .f64 y] w fun e w' => e = .returned (.tuple #[.float .f64 x, .int .i64 0]) ∧ w = w' := by
  have K := lKnown s
  rw [known_of hk] at K
  have K := Lib.hid K
  have C1 := Lib.hid (fun w => c129 x w hx)
  have C2 := Lib.hid (fun w => c129 y w hy)
  have C3 := Lib.hid (fun w => c130 x w hx)
  have C4 := Lib.hid (fun w => c130 y w hy)
  have C5 := Lib.hid (fun w => c135 w)
  have CF := Lib.hid (fun w => lFar s x w hx)
  have o1 := ord_self x hx
  have o2 := ord_self y hy
  · clear hx hy hk
    rw [h1] at C1
    rw [h1, if_neg (by decide)] at o1
    rw [h2] at C2
    rw [h2, if_neg (by decide)] at o2
    have h5 : (FloatKind.f64.format.order y 0 == some .eq) = false := beq_eq_false_iff_ne.2 h3
    rw [h4] at C3
    rw [h6] at C4
    clear h1 h2 h4 h6
    go_enter Tryz.func10, Tryz.ntmps10
    go_wp2_with (first
      | (go_at_call 33; with_reducible refine (K.out _).mono ?_; rintro e w' ⟨rfl, rfl⟩)
      | (go_at_call 34; with_reducible refine (C1.out _).mono ?_; rintro e w' ⟨rfl, rfl⟩)
      | (go_at_call 34; with_reducible refine (C2.out _).mono ?_; rintro e w' ⟨rfl, rfl⟩)
      | (go_at_call 35; with_reducible refine (C3.out _).mono ?_; rintro e w' ⟨rfl, rfl⟩)
      | (go_at_call 35; with_reducible refine (C4.out _).mono ?_; rintro e w' ⟨rfl, rfl⟩)
      | (go_at_call 36; refine (C5.out _).mono ?_; rintro e w' ⟨rfl, rfl⟩)
      | (go_at_call 37; with_reducible refine (CF.out _).mono ?_; rintro e w' ⟨rfl, rfl⟩))
    go_ret2
    exact ⟨rfl, rfl⟩

set_option maxRecDepth 100000 in
set_option maxHeartbeats 4000000 in
theorem lRoundJ (s : ByteArray) (x y : Nat) (w : World) (hx : U x) (hy : U y) (hk : WKi s ≠ 4) (h1 : isN x = false) (h2 : isN y = false) (h3 : ¬ FloatKind.f64.format.order y 0 = some .eq) (h4 : isI x = false) (h6 : isI y = true) : Calls Tryz.prog 10 #[.string s, .float .f64 x, .float .f64 y] w fun e w' => e = .returned (.tuple #[.float .f64 (farW (WKi s) x), .int .i64 0]) ∧ w = w' := by
  have K := lKnown s
  rw [known_of hk] at K
  have K := Lib.hid K
  have C1 := Lib.hid (fun w => c129 x w hx)
  have C2 := Lib.hid (fun w => c129 y w hy)
  have C3 := Lib.hid (fun w => c130 x w hx)
  have C4 := Lib.hid (fun w => c130 y w hy)
  have C5 := Lib.hid (fun w => c135 w)
  have CF := Lib.hid (fun w => lFar s x w hx)
  have o1 := ord_self x hx
  have o2 := ord_self y hy
  · clear hx hy hk
    rw [h1] at C1
    rw [h1, if_neg (by decide)] at o1
    rw [h2] at C2
    rw [h2, if_neg (by decide)] at o2
    have h5 : (FloatKind.f64.format.order y 0 == some .eq) = false := beq_eq_false_iff_ne.2 h3
    rw [h4] at C3
    rw [h6] at C4
    clear h1 h2 h4 h6
    generalize farW (WKi s) x = fw at *
    go_enter Tryz.func10, Tryz.ntmps10
    go_wp2_with (first
      | (go_at_call 33; with_reducible refine (K.out _).mono ?_; rintro e w' ⟨rfl, rfl⟩)
      | (go_at_call 34; with_reducible refine (C1.out _).mono ?_; rintro e w' ⟨rfl, rfl⟩)
      | (go_at_call 34; with_reducible refine (C2.out _).mono ?_; rintro e w' ⟨rfl, rfl⟩)
      | (go_at_call 35; with_reducible refine (C3.out _).mono ?_; rintro e w' ⟨rfl, rfl⟩)
      | (go_at_call 35; with_reducible refine (C4.out _).mono ?_; rintro e w' ⟨rfl, rfl⟩)
      | (go_at_call 36; refine (C5.out _).mono ?_; rintro e w' ⟨rfl, rfl⟩)
      | (go_at_call 37; with_reducible refine (CF.out _).mono ?_; rintro e w' ⟨rfl, rfl⟩))
    go_ret2
    exact ⟨rfl, rfl⟩

set_option maxRecDepth 100000 in
set_option maxHeartbeats 4000000 in
theorem rRoundN (s : ByteArray) (x y : Nat) (w : World) (hx : U x) (hy : U y) (hk : WKi s ≠ 4) (h : rndN x y) : Calls Tryz.prog 11 #[.string s, .float .f64 x, .float .f64 y] w fun e w' => e = .returned (.tuple #[.float .f64 QN, .bool true]) ∧ w = w' := by
  have K := rWord s
  rw [known_of hk] at K
  have K := Lib.hid K
  have C3 := Lib.hid (fun w => c130 x w hx)
  have C4 := Lib.hid (fun w => c130 y w hy)
  have C5 := Lib.hid (fun w => c135 w)
  have CF := Lib.hid (fun w => rFar s x w hx)
  have o1 := ord_self x hx
  have o2 := ord_self y hy
  have H := rndN_cases h
  clear h hk
  rcases H with h1 | ⟨h1, h2⟩ | ⟨h1, h2, h3⟩ | ⟨h1, h2, h3, h4, h6⟩
  · clear hx hy o2
    rw [h1, if_pos rfl] at o1
    generalize isI x = i1 at *
    generalize isI y = i2 at *
    go_enter Tryz.func11, Tryz.ntmps11
    go_wp2_with (first
      | (go_at_call 46; with_reducible refine (K.out _).mono ?_; rintro e w' ⟨rfl, rfl⟩)
      | (go_at_call 35; with_reducible refine (C3.out _).mono ?_; rintro e w' ⟨rfl, rfl⟩)
      | (go_at_call 35; with_reducible refine (C4.out _).mono ?_; rintro e w' ⟨rfl, rfl⟩)
      | (go_at_call 36; refine (C5.out _).mono ?_; rintro e w' ⟨rfl, rfl⟩)
      | (go_at_call 47; with_reducible refine (CF.out _).mono ?_; rintro e w' ⟨rfl, rfl⟩))
    go_ret2
    exact ⟨rfl, rfl⟩
  · clear hx hy
    rw [h1, if_neg (by decide)] at o1
    rw [h2, if_pos rfl] at o2
    generalize isI x = i1 at *
    generalize isI y = i2 at *
    go_enter Tryz.func11, Tryz.ntmps11
    go_wp2_with (first
      | (go_at_call 46; with_reducible refine (K.out _).mono ?_; rintro e w' ⟨rfl, rfl⟩)
      | (go_at_call 35; with_reducible refine (C3.out _).mono ?_; rintro e w' ⟨rfl, rfl⟩)
      | (go_at_call 35; with_reducible refine (C4.out _).mono ?_; rintro e w' ⟨rfl, rfl⟩)
      | (go_at_call 36; refine (C5.out _).mono ?_; rintro e w' ⟨rfl, rfl⟩)
      | (go_at_call 47; with_reducible refine (CF.out _).mono ?_; rintro e w' ⟨rfl, rfl⟩))
    go_ret2
    exact ⟨rfl, rfl⟩
  · clear hx hy
    rw [h1, if_neg (by decide)] at o1
    rw [h2, if_neg (by decide)] at o2
    generalize isI x = i1 at *
    generalize isI y = i2 at *
    go_enter Tryz.func11, Tryz.ntmps11
    go_wp2_with (first
      | (go_at_call 46; with_reducible refine (K.out _).mono ?_; rintro e w' ⟨rfl, rfl⟩)
      | (go_at_call 35; with_reducible refine (C3.out _).mono ?_; rintro e w' ⟨rfl, rfl⟩)
      | (go_at_call 35; with_reducible refine (C4.out _).mono ?_; rintro e w' ⟨rfl, rfl⟩)
      | (go_at_call 36; refine (C5.out _).mono ?_; rintro e w' ⟨rfl, rfl⟩)
      | (go_at_call 47; with_reducible refine (CF.out _).mono ?_; rintro e w' ⟨rfl, rfl⟩))
    go_ret2
    exact ⟨rfl, rfl⟩
  · clear hx hy
    rw [h1, if_neg (by decide)] at o1
    rw [h2, if_neg (by decide)] at o2
    have h5 : (FloatKind.f64.format.order y 0 == some .eq) = false := beq_eq_false_iff_ne.2 h3
    rw [h4] at C3
    rw [h6] at C4
    go_enter Tryz.func11, Tryz.ntmps11
    go_wp2_with (first
      | (go_at_call 46; with_reducible refine (K.out _).mono ?_; rintro e w' ⟨rfl, rfl⟩)
      | (go_at_call 35; with_reducible refine (C3.out _).mono ?_; rintro e w' ⟨rfl, rfl⟩)
      | (go_at_call 35; with_reducible refine (C4.out _).mono ?_; rintro e w' ⟨rfl, rfl⟩)
      | (go_at_call 36; refine (C5.out _).mono ?_; rintro e w' ⟨rfl, rfl⟩)
      | (go_at_call 47; with_reducible refine (CF.out _).mono ?_; rintro e w' ⟨rfl, rfl⟩))
    go_ret2
    exact ⟨rfl, rfl⟩

set_option maxRecDepth 100000 in
set_option maxHeartbeats 4000000 in
theorem rRoundI (s : ByteArray) (x y : Nat) (w : World) (hx : U x) (hy : U y) (hk : WKi s ≠ 4) (h1 : isN x = false) (h2 : isN y = false) (h3 : ¬ FloatKind.f64.format.order y 0 = some .eq) (h4 : isI x = true) (h6 : isI y = false) : Calls Tryz.prog 11 #[.string s, .float .f64 x, .float .f64 y] w fun e w' => e = .returned (.tuple #[.float .f64 x, .bool true]) ∧ w = w' := by
  have K := rWord s
  rw [known_of hk] at K
  have K := Lib.hid K
  have C3 := Lib.hid (fun w => c130 x w hx)
  have C4 := Lib.hid (fun w => c130 y w hy)
  have C5 := Lib.hid (fun w => c135 w)
  have CF := Lib.hid (fun w => rFar s x w hx)
  have o1 := ord_self x hx
  have o2 := ord_self y hy
  · clear hx hy hk
    rw [h1, if_neg (by decide)] at o1
    rw [h2, if_neg (by decide)] at o2
    have h5 : (FloatKind.f64.format.order y 0 == some .eq) = false := beq_eq_false_iff_ne.2 h3
    rw [h4] at C3
    rw [h6] at C4
    clear h1 h2 h4 h6
    go_enter Tryz.func11, Tryz.ntmps11
    go_wp2_with (first
      | (go_at_call 46; with_reducible refine (K.out _).mono ?_; rintro e w' ⟨rfl, rfl⟩)
      | (go_at_call 35; with_reducible refine (C3.out _).mono ?_; rintro e w' ⟨rfl, rfl⟩)
      | (go_at_call 35; with_reducible refine (C4.out _).mono ?_; rintro e w' ⟨rfl, rfl⟩)
      | (go_at_call 36; refine (C5.out _).mono ?_; rintro e w' ⟨rfl, rfl⟩)
      | (go_at_call 47; with_reducible refine (CF.out _).mono ?_; rintro e w' ⟨rfl, rfl⟩))
    go_ret2
    exact ⟨rfl, rfl⟩

set_option maxRecDepth 100000 in
set_option maxHeartbeats 4000000 in
theorem rRoundJ (s : ByteArray) (x y : Nat) (w : World) (hx : U x) (hy : U y) (hk : WKi s ≠ 4) (h1 : isN x = false) (h2 : isN y = false) (h3 : ¬ FloatKind.f64.format.order y 0 = some .eq) (h4 : isI x = false) (h6 : isI y = true) : Calls Tryz.prog 11 #[.string s, .float .f64 x, .float .f64 y] w fun e w' => e = .returned (.tuple #[.float .f64 (farW (WKi s) x), .bool true]) ∧ w = w' := by
  have K := rWord s
  rw [known_of hk] at K
  have K := Lib.hid K
  have C3 := Lib.hid (fun w => c130 x w hx)
  have C4 := Lib.hid (fun w => c130 y w hy)
  have C5 := Lib.hid (fun w => c135 w)
  have CF := Lib.hid (fun w => rFar s x w hx)
  have o1 := ord_self x hx
  have o2 := ord_self y hy
  · clear hx hy hk
    rw [h1, if_neg (by decide)] at o1
    rw [h2, if_neg (by decide)] at o2
    have h5 : (FloatKind.f64.format.order y 0 == some .eq) = false := beq_eq_false_iff_ne.2 h3
    rw [h4] at C3
    rw [h6] at C4
    clear h1 h2 h4 h6
    generalize farW (WKi s) x = fw at *
    go_enter Tryz.func11, Tryz.ntmps11
    go_wp2_with (first
      | (go_at_call 46; with_reducible refine (K.out _).mono ?_; rintro e w' ⟨rfl, rfl⟩)
      | (go_at_call 35; with_reducible refine (C3.out _).mono ?_; rintro e w' ⟨rfl, rfl⟩)
      | (go_at_call 35; with_reducible refine (C4.out _).mono ?_; rintro e w' ⟨rfl, rfl⟩)
      | (go_at_call 36; refine (C5.out _).mono ?_; rintro e w' ⟨rfl, rfl⟩)
      | (go_at_call 47; with_reducible refine (CF.out _).mono ?_; rintro e w' ⟨rfl, rfl⟩))
    go_ret2
    exact ⟨rfl, rfl⟩

end Go.Proofs.YthohhepoddnbnaaGreatDoor

namespace Go.Proofs.YthohhepoddnbnaaGreatDoor
open Go.RowKit Fl

theorem quo_units (x y : Nat) : pM (rg x) * 2 ^ (pE (rg x) - mE2 x y) / (pM (rg y) * 2 ^ (pE (rg y) - mE2 x y)) = Fl.val 52 (rg x) / Fl.val 52 (rg y) := by
  have h1 : mE2 x y ≤ pE (rg x) := Nat.min_le_left _ _
  have h2 : mE2 x y ≤ pE (rg y) := Nat.min_le_right _ _
  refine (Nat.mul_div_mul_right _ _ (Nat.two_pow_pos (mE2 x y))).symm.trans ?_
  rw [val_parts, val_parts, Nat.mul_assoc, Nat.mul_assoc, ← Nat.pow_add, ← Nat.pow_add, Nat.sub_add_cancel h1, Nat.sub_add_cancel h2]
theorem near_round (k x y : Nat) : min (near ((pM (rg x) * 2 ^ (pE (rg x) - mE2 x y) / (pM (rg y) * 2 ^ (pE (rg y) - mE2 x y)) + if outB k (sg x) (pM (rg x) * 2 ^ (pE (rg x) - mE2 x y) % (pM (rg y) * 2 ^ (pE (rg y) - mE2 x y))) (pM (rg y) * 2 ^ (pE (rg y) - mE2 x y)) then 1 else 0) * (pM (rg y) * 2 ^ (pE (rg y) - mE2 x y))) ((mE2 x y : Int) - 1074)) INF = rnd (roundN k x y) := by
  have h := rem_units x y
  have hq := quo_units x y
  unfold near rnd roundN
  have e1 : ((mE2 x y : Int) - 1074 + 1074).toNat = mE2 x y := by omega
  have e2 : (-1074 - ((mE2 x y : Int) - 1074)).toNat = 0 := by omega
  rw [e1, e2, ← outB_scale k (sg x) _ (pM (rg y) * 2 ^ (pE (rg y) - mE2 x y)) _ (Nat.two_pow_pos (mE2 x y)), h.1, h.2, hq, Nat.mul_assoc, h.2]
theorem blen_round {A B m : Nat} (c : Nat) (hc : c ≤ 1) (ha : blen A ≤ m) (hb : blen B ≤ m) : blen ((A / B + c) * B) ≤ m + 1 := by
  have h1 : A < 2 ^ m := Nat.lt_of_lt_of_le (lt_blen A) (Nat.pow_le_pow_right (by decide) ha)
  have h2 : B < 2 ^ m := Nat.lt_of_lt_of_le (lt_blen B) (Nat.pow_le_pow_right (by decide) hb)
  refine blen_lt _ _ ?_
  rw [Nat.pow_succ, Nat.add_mul]
  have h3 := Nat.div_mul_le_self A B
  have h4 : c * B ≤ B := by
    rcases (show c = 0 ∨ c = 1 by omega) with rfl | rfl <;> simp
  omega
theorem blen_quo {A m : Nat} (B c : Nat) (hc : c ≤ 1) (ha : blen A ≤ m) : blen (A / B + c) ≤ m + 1 := by
  have h1 : A < 2 ^ m := Nat.lt_of_lt_of_le (lt_blen A) (Nat.pow_le_pow_right (by decide) ha)
  refine blen_lt _ _ ?_
  rw [Nat.pow_succ]
  have h3 := Nat.div_le_self A B
  omega

theorem neg_order (x : Nat) (hx : U x) (hn : isN x = false) (h0 : rg x ≠ 0) : (FloatKind.f64.format.order x 0 == some .lt) = sg x := by
  have e0 : isN 0 = false := by decide
  rw [f64_order x 0 hx U_0, hn, e0, compare_int]
  have h2 : skey 0 = 0 := by decide
  rw [h2]
  simp only [Bool.or_self, Bool.false_eq_true, if_false]
  unfold skey
  cases sg x
  · simp only [Bool.false_eq_true, if_false]
    rw [if_neg (by omega), if_neg (by omega)]; rfl
  · simp only [if_true]
    rw [if_pos (by omega)]; rfl
theorem rem_ne (x y : Nat) (h : Fl.val 52 (rg x) % Fl.val 52 (rg y) ≠ 0) : rg x ≠ 0 := fun e => h (by rw [e, Fl.val_zero, Nat.zero_mod])
theorem rc1_of (x y : Nat) (hx : U x) (hy : U y) (h1 : isN x = false) (h2 : isN y = false) (h3 : ¬ FloatKind.f64.format.order y 0 = some .eq) (h4 : isI x = false) (h6 : isI y = false) :
    RC1 x y (pM (rg x) * 2 ^ (pE (rg x) - mE2 x y)) (pM (rg y) * 2 ^ (pE (rg y) - mE2 x y)) ((mE2 x y : Int) - 1074) ∧ blen (pM (rg x) * 2 ^ (pE (rg x) - mE2 x y)) ≤ 3000 ∧ blen (pM (rg y) * 2 ^ (pE (rg y) - mE2 x y)) ≤ 3000 ∧ 0 < pM (rg y) * 2 ^ (pE (rg y) - mE2 x y) ∧ mE2 x y ≤ 2045 := by
  have fx := fin_of x h1 h4
  have fy := fin_of y h2 h6
  have hp := pM_pos (rg y) (fun e => h3 (order_zero y hy h2 e))
  have l1 := pE_le _ fx
  have l2 := pE_le _ fy
  have hA : blen (pM (rg x) * 2 ^ (pE (rg x) - mE2 x y)) ≤ 3000 := Nat.le_trans (blen_shl _ _) (by have := blen_lt _ _ (pM_lt (rg x)); omega)
  have hB : blen (pM (rg y) * 2 ^ (pE (rg y) - mE2 x y)) ≤ 3000 := Nat.le_trans (blen_shl _ _) (by have := blen_lt _ _ (pM_lt (rg y)); omega)
  have hB0 : 0 < pM (rg y) * 2 ^ (pE (rg y) - mE2 x y) := Nat.mul_pos hp (Nat.two_pow_pos _)
  have hE : mE2 x y ≤ 2045 := Nat.le_trans (Nat.min_le_left _ _) l1
  have cb := fun w => lBoth x y w hx hy fx fy
  refine ⟨?_, hA, hB, hB0, hE⟩
  generalize pM (rg x) * 2 ^ (pE (rg x) - mE2 x y) = A at *
  generalize pM (rg y) * 2 ^ (pE (rg y) - mE2 x y) = B at *
  have hle : A % B ≤ B := Nat.le_of_lt (Nat.mod_lt _ hB0)
  have hR : blen (A % B) ≤ 3000 := Nat.le_trans (blen_mono hle) hB
  have hQ : blen (A / B) ≤ 3000 := Nat.le_trans (blen_mono (Nat.div_le_self _ _)) hA
  exact {
    c1 := fun w => by rw [← h1]; exact c129 x w hx
    c2 := fun w => by rw [← h2]; exact c129 y w hy
    c3 := fun w => by rw [← h4]; exact c130 x w hx
    c4 := fun w => by rw [← h6]; exact c130 y w hy
    cb := cb
    cq := fun w v u hv hu => c39 hv hu hB0 (by omega) (by omega)
    cl := fun w v hv => by
      have := c40 (n := 1) hv (by omega)
      rw [Nat.pow_one] at this
      exact this
    co := fun w => c43 1 w (by decide)
    ca := fun w v u hv hu => (lAdd hv hu (by omega) (by have : blen 1 = 1 := by decide
                                                        omega)).mono fun _ _ ⟨a, v', b, c, _⟩ => ⟨a, v', b, c⟩ }
theorem lRoundF (s : ByteArray) (x y : Nat) (w : World) (hx : U x) (hy : U y) (hk : WKi s ≠ 4) (h1 : isN x = false) (h2 : isN y = false) (h3 : ¬ FloatKind.f64.format.order y 0 = some .eq) (h4 : isI x = false) (h6 : isI y = false) :
    Calls Tryz.prog 10 #[.string s, .float .f64 x, .float .f64 y] w fun e w' => e = .returned (.tuple #[.float .f64 (roundF (WKi s) x y), .int .i64 0]) ∧ Below w.heap.size w w' := by
  obtain ⟨H, hA, hB, hB0, hE⟩ := rc1_of x y hx hy h1 h2 h3 h4 h6
  have K := lKnown s
  rw [known_of hk] at K
  have K := Lib.hid K
  have h5 : (FloatKind.f64.format.order y 0 == some .eq) = false := beq_eq_false_iff_ne.2 h3
  have hz := rem_zero x y
  by_cases hr : Fl.val 52 (rg x) % Fl.val 52 (rg y) = 0
  · have e : roundF (WKi s) x y = x := if_pos hr
    rw [e]
    exact lRz w K (Lib.hid H) h5 (hz.2 hr)
  · have e : roundF (WKi s) x y = word (sg x) (rnd (roundN (WKi s) x y)) := if_neg hr
    rw [e]
    have ng := neg_order x hx h1 (rem_ne x y hr)
    have nr := near_round (WKi s) x y
    have HZ := Lib.hid (show _ ≠ 0 from fun q => hr (hz.1 q))
    generalize pM (rg x) * 2 ^ (pE (rg x) - mE2 x y) = A at *
    generalize pM (rg y) * 2 ^ (pE (rg y) - mE2 x y) = B at *
    generalize rnd (roundN (WKi s) x y) = Z at *
    have hb1 := blen_round (c := 1) (Nat.le_refl _) hA hB
    have hb0 := blen_round (c := 0) (Nat.zero_le _) hA hB
    have hq1 := blen_quo B 1 (Nat.le_refl _) hA
    have hq0 := blen_quo B 0 (Nat.zero_le _) hA
    rw [Nat.add_zero] at hb0 hq0
    have hR : blen (A % B) ≤ 3000 := Nat.le_trans (blen_mono (Nat.le_of_lt (Nat.mod_lt _ hB0))) hB
    have hR2 : blen (A % B * 2) ≤ 3001 := by
      have := blen_shl (A % B) 1
      rw [Nat.pow_one] at this
      omega
    have CM1 : Hid (∀ (w : World) v u, NV w v (A / B + 1) → NV w u B → Calls Tryz.prog 45 #[v, u] w fun e w' => Below w.heap.size w w' ∧ ∃ v', e = .returned v' ∧ NV w' v' ((A / B + 1) * B)) := Lib.hid fun w v u hv hu => lMul hv hu (by omega) (by omega)
    have CM0 : Hid (∀ (w : World) v u, NV w v (A / B) → NV w u B → Calls Tryz.prog 45 #[v, u] w fun e w' => Below w.heap.size w w' ∧ ∃ v', e = .returned v' ∧ NV w' v' (A / B * B)) := Lib.hid fun w v u hv hu => lMul hv hu (by omega) (by omega)
    have CN1 := fun (w : World) v (hv : NV w v ((A / B + 1) * B)) => lNear (sg x) hv (by omega) (show -1074 ≤ (mE2 x y : Int) - 1074 by omega) (by omega)
    have CN0 := fun (w : World) v (hv : NV w v (A / B * B)) => lNear (sg x) hv (by omega) (show -1074 ≤ (mE2 x y : Int) - 1074 by omega) (by omega)
    have CC := fun (w : World) v u (hv : NV w v (A % B * 2)) (hu : NV w u B) => c41 hv hu (by omega) (by omega)
    have hk4 := hk
    have hk := QK.of s
    rcases WKi_lt s with e | e | e | e | e <;> rw [e] at hk nr
    · generalize sg x = neg at *
      rcases Nat.lt_trichotomy (A % B * 2) B with c | c | c
      · have ho : outB 0 neg (A % B) B = false := outB_l neg (by omega)
        rw [ho, if_neg Bool.false_ne_true, Nat.add_zero] at nr
        rw [nr] at CN0
        have CC := Lib.hid fun (w : World) v u hv hu => (CC w v u hv hu).mono fun e w' ⟨⟨r, he, hc⟩, hw⟩ => (⟨⟨r, he, hc.1 c⟩, hw⟩ : (∃ r : Int, e = Ending.returned (.int .i64 r) ∧ r < 0) ∧ ∃ n, w' = w.drewN n)
        cases neg
        · exact lR0pl w hk.n0 hk.n1 hk.n2 hk.n3 K (Lib.hid H) h5 ng HZ CC CM0 (Lib.hid CN0)
        · exact lR0nl w hk.n0 hk.n1 hk.n2 hk.n3 K (Lib.hid H) h5 ng HZ CC CM0 (Lib.hid CN0)
      · have ho : outB 0 neg (A % B) B = !neg := outB_e neg (by omega)
        rw [ho] at nr
        have CC := Lib.hid fun (w : World) v u hv hu => (CC w v u hv hu).mono fun e w' ⟨⟨r, he, hc⟩, hw⟩ => (⟨(by rw [he, hc.2.1 c]), hw⟩ : e = Ending.returned (.int .i64 0) ∧ ∃ n, w' = w.drewN n)
        cases neg
        · rw [Bool.not_false, if_pos rfl] at nr
          rw [nr] at CN1
          exact lR0pe w hk.n0 hk.n1 hk.n2 hk.n3 K (Lib.hid H) h5 ng HZ CC CM1 (Lib.hid CN1)
        · rw [Bool.not_true, if_neg Bool.false_ne_true, Nat.add_zero] at nr
          rw [nr] at CN0
          exact lR0ne w hk.n0 hk.n1 hk.n2 hk.n3 K (Lib.hid H) h5 ng HZ CC CM0 (Lib.hid CN0)
      · have ho : outB 0 neg (A % B) B = true := outB_g neg (by omega)
        rw [ho, if_pos rfl] at nr
        rw [nr] at CN1
        have CC := Lib.hid fun (w : World) v u hv hu => (CC w v u hv hu).mono fun e w' ⟨⟨r, he, hc⟩, hw⟩ => (⟨⟨r, he, hc.2.2 c⟩, hw⟩ : (∃ r : Int, e = Ending.returned (.int .i64 r) ∧ 0 < r) ∧ ∃ n, w' = w.drewN n)
        cases neg
        · exact lR0pg w hk.n0 hk.n1 hk.n2 hk.n3 K (Lib.hid H) h5 ng HZ CC CM1 (Lib.hid CN1)
        · exact lR0ng w hk.n0 hk.n1 hk.n2 hk.n3 K (Lib.hid H) h5 ng HZ CC CM1 (Lib.hid CN1)
    all_goals
      have CC := Lib.hid fun (w : World) v u hv hu => (CC w v u hv hu).mono fun e w' ⟨⟨r, he, hc⟩, hw⟩ => (⟨⟨r, he⟩, hw⟩ : (∃ r : Int, e = Ending.returned (.int .i64 r)) ∧ ∃ n, w' = w.drewN n)
      generalize sg x = neg at *
      have q : ∀ k neg r b, outB k neg r b = outB k neg r b := fun _ _ _ _ => rfl
    · have ho : outB 1 neg (A % B) B = !neg := by cases neg <;> rfl
      rw [ho] at nr
      cases neg
      · rw [Bool.not_false, if_pos rfl] at nr
        rw [nr] at CN1
        exact lR1p w hk.n0 hk.n1 hk.n2 hk.n3 K (Lib.hid H) h5 ng HZ CC CM1 (Lib.hid CN1)
      · rw [Bool.not_true, if_neg Bool.false_ne_true, Nat.add_zero] at nr
        rw [nr] at CN0
        exact lR1n w hk.n0 hk.n1 hk.n2 hk.n3 K (Lib.hid H) h5 ng HZ CC CM0 (Lib.hid CN0)
    · have ho : outB 2 neg (A % B) B = neg := by cases neg <;> rfl
      rw [ho] at nr
      cases neg
      · rw [if_neg Bool.false_ne_true, Nat.add_zero] at nr
        rw [nr] at CN0
        exact lR2p w hk.n0 hk.n1 hk.n2 hk.n3 K (Lib.hid H) h5 ng HZ CC CM0 (Lib.hid CN0)
      · rw [if_pos rfl] at nr
        rw [nr] at CN1
        exact lR2n w hk.n0 hk.n1 hk.n2 hk.n3 K (Lib.hid H) h5 ng HZ CC CM1 (Lib.hid CN1)
    · have ho : outB 3 neg (A % B) B = false := by cases neg <;> rfl
      rw [ho, if_neg Bool.false_ne_true, Nat.add_zero] at nr
      rw [nr] at CN0
      cases neg
      · exact lR3p w hk.n0 hk.n1 hk.n2 hk.n3 K (Lib.hid H) h5 ng HZ CC CM0 (Lib.hid CN0)
      · exact lR3n w hk.n0 hk.n1 hk.n2 hk.n3 K (Lib.hid H) h5 ng HZ CC CM0 (Lib.hid CN0)
    · exact absurd (by assumption) hk4
theorem rRoundF (s : ByteArray) (x y : Nat) (w : World) (hx : U x) (hy : U y) (hk : WKi s ≠ 4) (h1 : isN x = false) (h2 : isN y = false) (h3 : ¬ FloatKind.f64.format.order y 0 = some .eq) (h4 : isI x = false) (h6 : isI y = false) :
    Calls Tryz.prog 11 #[.string s, .float .f64 x, .float .f64 y] w fun e w' => (∃ z, e = .returned (.tuple #[.float .f64 z, .bool true]) ∧ U z ∧ pl z = pl (roundF (WKi s) x y)) ∧ Below w.heap.size w w' := by
  have K := rWord s
  rw [known_of hk] at K
  have K := Lib.hid K
  have h5 : (FloatKind.f64.format.order y 0 == some .eq) = false := beq_eq_false_iff_ne.2 h3
  have fx := fin_of x h1 h4
  have fy := fin_of y h2 h6
  have o1 : FloatKind.f64.format.order x x = some .eq := by rw [ord_self x hx, h1]; rfl
  have o2 : FloatKind.f64.format.order y y = some .eq := by rw [ord_self y hy, h2]; rfl
  have vx := val_fin x fx
  have vy := val_fin y fy
  have v0 : 0 < Fl.val 52 (rg y) := by rw [val_parts]; exact Nat.mul_pos (pM_pos (rg y) (fun e => h3 (order_zero y hy h2 e))) (Nat.two_pow_pos _)
  have U1 := fun w => lUnits x w hx fx
  have U2 := fun w => lUnits y w hy fy
  have hdm := Nat.div_add_mod (Fl.val 52 (rg x)) (Fl.val 52 (rg y))
  have hlt := Nat.mod_lt (Fl.val 52 (rg x)) v0
  have hN : roundN (WKi s) x y = (Fl.val 52 (rg x) / Fl.val 52 (rg y) + if outB (WKi s) (sg x) (Fl.val 52 (rg x) % Fl.val 52 (rg y)) (Fl.val 52 (rg y)) then 1 else 0) * Fl.val 52 (rg y) := rfl
  have hF : roundF (WKi s) x y = if Fl.val 52 (rg x) % Fl.val 52 (rg y) = 0 then x else word (sg x) (rnd (roundN (WKi s) x y)) := rfl
  have CR := fun w => lRest (Fl.val 52 (rg x)) (Fl.val 52 (rg y)) w v0 vy (lt_half vx)
  rw [hF]
  clear hF
  generalize roundN (WKi s) x y = N0 at *
  generalize Fl.val 52 (rg x) = a at *
  generalize Fl.val 52 (rg y) = b at *
  have hq : a / b * b = a - a % b := by rw [Nat.mul_comm]; omega
  have hra : a % b ≤ a := Nat.mod_le _ _
  generalize a % b = r at *
  have C2 : RC2 x y a b r (sg x) := {
    c3 := fun w => by rw [← h4]; exact c130 x w hx
    c4 := fun w => by rw [← h6]; exact c130 y w hy
    ua := U1
    ub := U2
    rest := CR
    cn := fun w => lNeg x w hx
    cc := fun w => c167 r 0 w (Nat.lt_trans hlt (lt_half vy)) (Nat.two_pow_pos _)
    e1 := fun n => by rw [UL_len]; exact size108
    e2 := fun n => by rw [List.size_toArray, UL_len]; exact size108 }
  by_cases hz : r = 0
  · rw [if_pos hz]
    exact (rRz w K (Lib.hid C2) o1 o2 h5 hz).mono fun e w' ⟨he, hw⟩ => ⟨⟨_, he, hx, rfl⟩, hw⟩
  · rw [if_neg hz]
    have hab : a - r + b < 2 ^ (32 * RC) := by
      generalize 2 ^ (32 * RC) = T at *
      omega
    have C3 : RC3 a b r (sg x) := {
      li := fun w => c169 a r w hra
      po := fun w => lPlus (a - r) b w (lt_half vy)
      ll := fun w => c169 b r w (Nat.le_of_lt hlt)
      cl := fun w => c167 r (b - r) w (Nat.lt_trans hlt (lt_half vy)) (Nat.lt_of_le_of_lt (Nat.sub_le _ _) (lt_half vy))
      di := fun w => (c168 (a - r) w (Nat.lt_of_le_of_lt (Nat.sub_le _ _) (lt_half vx))).mono fun e w' h => h
      dO := fun w => (c168 (a - r + b) w hab).mono fun e w' h => h
      cs := fun z N hz hp w => (lSigned z (sg x) w hz).mono fun e w' ⟨he, hw⟩ => ⟨⟨_, he, Lib.hid ⟨(word_pl _ _ z hz hp).2, (word_pl _ _ z hz hp).1⟩⟩, hw⟩ }
    refine rRn w (QK.of s) ?_ K (Lib.hid C2) (Lib.hid C3) o1 o2 h5 (if_pos (Nat.pos_of_ne_zero hz)) (Lib.hid ?_)
    · rcases WKi_lt s with e | e | e | e | e
      · exact .inl e
      · exact .inr (.inl e)
      · exact .inr (.inr (.inl e))
      · exact .inr (.inr (.inr e))
      · exact absurd e hk
    · rw [hN, Nat.add_mul, hq]
      split <;> simp
end Go.Proofs.YthohhepoddnbnaaGreatDoor

namespace Go.Proofs.YthohhepoddnbnaaGreatDoor
open Go.RowKit Fl

theorem U_far (k x : Nat) : U (farW k x) := by
  unfold farW
  repeat' split
  all_goals (unfold U; decide)
theorem U_round {x : Nat} (k y : Nat) (hx : U x) : U (roundW k x y) := by
  unfold roundW roundF
  repeat' split
  all_goals first | exact hx | exact U_QN | exact U_far _ _ | exact U_word _ _ (rnd_lt _)
theorem rnd_not {x y : Nat} (h : ¬ rndN x y) : isN x = false ∧ isN y = false ∧ (¬ FloatKind.f64.format.order y 0 = some .eq) ∧ ¬ (isI x = true ∧ isI y = true) :=
  ⟨Bool.eq_false_iff.2 fun e => h (.inl e), Bool.eq_false_iff.2 fun e => h (.inr (.inl e)), fun e => h (.inr (.inr (.inl e))), fun e => h (.inr (.inr (.inr e)))⟩
theorem lRoundW (s : ByteArray) (x y : Nat) (w : World) (hx : U x) (hy : U y) (hk : WKi s ≠ 4) : Calls Tryz.prog 10 #[.string s, .float .f64 x, .float .f64 y] w fun e w' => e = .returned (.tuple #[.float .f64 (roundW (WKi s) x y), .int .i64 0]) ∧ Below w.heap.size w w' := by
  unfold roundW
  by_cases h : rndN x y
  · rw [if_pos h]
    exact (lRoundN s x y w hx hy hk h).mono fun e w' ⟨he, hw⟩ => ⟨he, hw ▸ Below.refl _ _⟩
  · rw [if_neg h]
    obtain ⟨h1, h2, h3, h4⟩ := rnd_not h
    by_cases hi : isI x = true
    · rw [if_pos hi]
      exact (lRoundI s x y w hx hy hk h1 h2 h3 hi (Bool.eq_false_iff.2 fun e => h4 ⟨hi, e⟩)).mono fun e w' ⟨he, hw⟩ => ⟨he, hw ▸ Below.refl _ _⟩
    · rw [if_neg hi]
      have hi := Bool.eq_false_iff.2 hi
      by_cases hj : isI y = true
      · rw [if_pos hj]
        exact (lRoundJ s x y w hx hy hk h1 h2 h3 hi hj).mono fun e w' ⟨he, hw⟩ => ⟨he, hw ▸ Below.refl _ _⟩
      · rw [if_neg hj]
        exact lRoundF s x y w hx hy hk h1 h2 h3 hi (Bool.eq_false_iff.2 hj)
theorem rRoundW (s : ByteArray) (x y : Nat) (w : World) (hx : U x) (hy : U y) (hk : WKi s ≠ 4) : Calls Tryz.prog 11 #[.string s, .float .f64 x, .float .f64 y] w fun e w' => (∃ z, e = .returned (.tuple #[.float .f64 z, .bool true]) ∧ U z ∧ pl z = pl (roundW (WKi s) x y)) ∧ Below w.heap.size w w' := by
  have hU := U_round (WKi s) y hx
  unfold roundW at hU ⊢
  by_cases h : rndN x y
  · rw [if_pos h] at hU ⊢
    exact (rRoundN s x y w hx hy hk h).mono fun e w' ⟨he, hw⟩ => ⟨⟨_, he, hU, rfl⟩, hw ▸ Below.refl _ _⟩
  · rw [if_neg h] at hU ⊢
    obtain ⟨h1, h2, h3, h4⟩ := rnd_not h
    by_cases hi : isI x = true
    · rw [if_pos hi] at hU ⊢
      exact (rRoundI s x y w hx hy hk h1 h2 h3 hi (Bool.eq_false_iff.2 fun e => h4 ⟨hi, e⟩)).mono fun e w' ⟨he, hw⟩ => ⟨⟨_, he, hU, rfl⟩, hw ▸ Below.refl _ _⟩
    · rw [if_neg hi] at hU ⊢
      have hi := Bool.eq_false_iff.2 hi
      by_cases hj : isI y = true
      · rw [if_pos hj] at hU ⊢
        exact (rRoundJ s x y w hx hy hk h1 h2 h3 hi hj).mono fun e w' ⟨he, hw⟩ => ⟨⟨_, he, hU, rfl⟩, hw ▸ Below.refl _ _⟩
      · rw [if_neg hj]
        exact rRoundF s x y w hx hy hk h1 h2 h3 hi (Bool.eq_false_iff.2 hj)
end Go.Proofs.YthohhepoddnbnaaGreatDoor

namespace Go.Proofs.YthohhepoddnbnaaGreatDoor
open Go.RowKit Fl

instance decRem (x y : Nat) : Decidable (remN x y) := by unfold remN; exact inferInstance
def remW (x y : Nat) : Nat := if remN x y then QN else if isI y = true then x else remF x y
def modW (x y : Nat) : Nat := if remN x y then QN else if isI y = true then (if sg x = sg y then x else QN) else modF x y
theorem U_remW {x : Nat} (y : Nat) (hx : U x) : U (remW x y) := by
  unfold remW remF
  split
  · exact U_QN
  · split
    · exact hx
    · exact U_word _ _ (rnd_lt _)
theorem U_modW {x : Nat} (y : Nat) (hx : U x) : U (modW x y) := by
  unfold modW modF
  split
  · exact U_QN
  · split
    · split
      · exact hx
      · exact U_QN
    · exact U_word _ _ (rnd_lt _)
theorem lRemW (x y : Nat) (w : World) (hx : U x) (hy : U y) : Calls Tryz.prog 15 #[.float .f64 x, .float .f64 y] w fun e w' => e = .returned (.float .f64 (remW x y)) ∧ Below w.heap.size w w' := by
  unfold remW
  split
  · exact (lRemN x y w hx hy (by assumption)).mono fun e w' ⟨he, hw⟩ => ⟨he, hw ▸ Below.refl _ _⟩
  · split
    · exact (lRemI x y w hx hy (by assumption) (by assumption)).mono fun e w' ⟨he, hw⟩ => ⟨he, hw ▸ Below.refl _ _⟩
    · rename_i h1 h2
      exact lRemF x y w hx hy h1 (Bool.eq_false_iff.2 h2)
theorem rRemW (x y : Nat) (w : World) (hx : U x) (hy : U y) : Calls Tryz.prog 18 #[.float .f64 x, .float .f64 y] w fun e w' => (∃ r, e = .returned (.float .f64 r) ∧ U r ∧ pl r = pl (remW x y)) ∧ Below w.heap.size w w' := by
  have hU := U_remW y hx
  unfold remW at hU ⊢
  split
  · rename_i h
    rw [if_pos h] at hU
    exact (rRemN x y w hx hy h).mono fun e w' ⟨he, hw⟩ => ⟨⟨_, he, hU, rfl⟩, hw ▸ Below.refl _ _⟩
  · rename_i h
    rw [if_neg h] at hU
    split
    · rename_i h2
      rw [if_pos h2] at hU
      exact (rRemI x y w hx hy h h2).mono fun e w' ⟨he, hw⟩ => ⟨⟨_, he, hU, rfl⟩, hw ▸ Below.refl _ _⟩
    · rename_i h2
      exact rRemF x y w hx hy h (Bool.eq_false_iff.2 h2)
theorem lModW (x y : Nat) (w : World) (hx : U x) (hy : U y) : Calls Tryz.prog 16 #[.float .f64 x, .float .f64 y] w fun e w' => e = .returned (.float .f64 (modW x y)) ∧ Below w.heap.size w w' := by
  unfold modW
  split
  · exact (lModN x y w hx hy (by assumption)).mono fun e w' ⟨he, hw⟩ => ⟨he, hw ▸ Below.refl _ _⟩
  · split
    · exact (lModI x y w hx hy (by assumption) (by assumption)).mono fun e w' ⟨he, hw⟩ => ⟨he, hw ▸ Below.refl _ _⟩
    · rename_i h1 h2
      exact lModF x y w hx hy h1 (Bool.eq_false_iff.2 h2)
theorem rModW (x y : Nat) (w : World) (hx : U x) (hy : U y) : Calls Tryz.prog 19 #[.float .f64 x, .float .f64 y] w fun e w' => (∃ r, e = .returned (.float .f64 r) ∧ U r ∧ pl r = pl (modW x y)) ∧ Below w.heap.size w w' := by
  have hU := U_modW y hx
  unfold modW at hU ⊢
  split
  · rename_i h
    rw [if_pos h] at hU
    exact (rModN x y w hx hy h).mono fun e w' ⟨he, hw⟩ => ⟨⟨_, he, hU, rfl⟩, hw ▸ Below.refl _ _⟩
  · rename_i h
    rw [if_neg h] at hU
    split
    · rename_i h2
      rw [if_pos h2] at hU
      exact (rModI x y w hx hy h h2).mono fun e w' ⟨he, hw⟩ => ⟨⟨_, he, hU, rfl⟩, hw ▸ Below.refl _ _⟩
    · rename_i h2
      exact rModF x y w hx hy h (Bool.eq_false_iff.2 h2)
end Go.Proofs.YthohhepoddnbnaaGreatDoor

namespace Go.Proofs.YthohhepoddnbnaaGreatDoor
open Go.RowKit Fl

theorem isI_ng {x : Nat} (h : U x) : isI (ng x) = isI x := by unfold isI; rw [rg_ng h]
theorem ng_word2 (s : Bool) (r : Nat) (h : r < 9223372036854775808) : ng (word s r) = word (!s) r := by
  rw [ng_eq _ (U_word _ _ h), sg_word _ _ h, rg_word _ _ h]
theorem ng_ng {x : Nat} (h : U x) : ng (ng x) = x := by
  rw [ng_eq x h, ng_word2 _ _ (rg_lt x), Bool.not_not]
  exact word_self x h.lt
theorem isN_QN : isN QN = true := by decide
theorem pl_ng_QN : pl (ng QN) = pl QN := by rw [pl_ng U_QN, pl_nan isN_QN]; rfl
theorem remN_ng {x y : Nat} (hx : U x) : remN (ng x) y ↔ remN x y := by unfold remN; rw [isN_ng hx, isI_ng hx]
theorem rndN_ng {x y : Nat} (hx : U x) : rndN (ng x) y ↔ rndN x y := by unfold rndN; rw [isN_ng hx, isI_ng hx]
theorem rem_turn (x y : Nat) (hx : U x) : pl (ng (remW x y)) = pl (remW (ng x) y) := by
  unfold remW
  by_cases h : remN x y
  · rw [if_pos h, if_pos ((remN_ng hx).2 h)]; exact pl_ng_QN
  · rw [if_neg h, if_neg (fun e => h ((remN_ng hx).1 e))]
    split
    · rfl
    · unfold remF
      rw [ng_word2 _ _ (rnd_lt _), sg_ng hx, rg_ng hx]
theorem order_zero_ng (x : Nat) (hx : U x) : FloatKind.f64.format.order (ng x) 0 = some .lt ↔ FloatKind.f64.format.order x 0 = some .gt := by
  have e0 : isN 0 = false := by decide
  have h2 : skey 0 = 0 := by decide
  rw [f64_order _ 0 (U_ng hx) U_0, f64_order x 0 hx U_0, isN_ng hx, e0, h2, compare_int, compare_int]
  unfold skey
  rw [sg_ng hx, rg_ng hx]
  cases isN x
  · simp only [Bool.or_self, Bool.false_eq_true, if_false, Option.some.injEq]
    cases sg x
    · simp only [Bool.not_false, if_true, Bool.false_eq_true, if_false]
      by_cases h : rg x = 0
      · rw [h]; simp
      · rw [if_pos (by omega), if_neg (by omega), if_neg (by omega)]
        exact ⟨fun _ => rfl, fun _ => rfl⟩
    · simp only [Bool.not_true, if_true, Bool.false_eq_true, if_false]
      by_cases h : rg x = 0
      · rw [h]; simp
      · rw [if_neg (by omega), if_neg (by omega), if_pos (by omega)]
        exact ⟨(fun h => by cases h), (fun h => by cases h)⟩
  · simp
theorem far_turn (x : Nat) (hx : U x) : ng (farW 2 (ng x)) = farW 1 x := by
  unfold farW
  rw [if_neg (fun e => absurd e.1 (by decide))]
  by_cases h : FloatKind.f64.format.order x 0 = some .gt
  · rw [if_pos ⟨rfl, (order_zero_ng x hx).2 h⟩, if_pos ⟨rfl, h⟩]; decide
  · rw [if_neg (show ¬ (2 = 2 ∧ FloatKind.f64.format.order (ng x) 0 = some .lt) from fun e => h ((order_zero_ng x hx).1 e.2)), if_neg (show ¬ (1 = 1 ∧ FloatKind.f64.format.order x 0 = some .gt) from fun e => h e.2), if_neg (show ¬ (1 = 2 ∧ FloatKind.f64.format.order x 0 = some .lt) from fun e => absurd e.1 (by decide)), sg_ng hx]
    cases sg x <;> decide
theorem out_turn (neg : Bool) (r b : Nat) : outB 2 (!neg) r b = outB 1 neg r b := by cases neg <;> rfl
theorem round_turn (x y : Nat) (hx : U x) : pl (ng (roundW 2 (ng x) y)) = pl (roundW 1 x y) := by
  unfold roundW
  by_cases h : rndN x y
  · rw [if_pos h, if_pos ((rndN_ng hx).2 h)]; exact pl_ng_QN
  · rw [if_neg h, if_neg (fun e => h ((rndN_ng hx).1 e)), isI_ng hx]
    split
    · rw [ng_ng hx]
    · split
      · rw [far_turn x hx]
      · unfold roundF roundN
        rw [sg_ng hx, rg_ng hx, out_turn]
        split
        · rw [ng_ng hx]
        · rw [ng_word2 _ _ (rnd_lt _), Bool.not_not]
theorem fin_isI {x : Nat} (h : rg x < INF) : isN x = false ∧ isI x = false := by
  unfold INF at h
  exact ⟨by unfold isN INF; exact decide_eq_false (by omega), by unfold isI; exact decide_eq_false (by omega)⟩
theorem order_zero_iff (y : Nat) (hy : U y) (hn : isN y = false) : FloatKind.f64.format.order y 0 = some .eq ↔ rg y = 0 := by
  refine ⟨fun h => ?_, order_zero y hy hn⟩
  have e0 : isN 0 = false := by decide
  have h2 : skey 0 = 0 := by decide
  rw [f64_order y 0 hy U_0, hn, e0, compare_int, h2] at h
  unfold skey at h
  simp only [Bool.or_self, Bool.false_eq_true, if_false, Option.some.injEq] at h
  rcases Nat.eq_zero_or_pos (rg y) with c | c
  · exact c
  · exfalso
    cases hs : sg y <;> rw [hs] at h
    · simp only [Bool.false_eq_true, if_false] at h
      rw [if_neg (by omega), if_neg (by omega)] at h
      cases h
    · simp only [if_true] at h
      rw [if_pos (by omega)] at h
      cases h
theorem float_eI (z : Int) : floatOfInt .f64 z = eI z := by
  show Ieee.double.nearest (decide (z < 0)) z.natAbs 0 = _
  rw [nearest_int]
  rfl
theorem five_turn (z s : Int) (hz : z.natAbs ≤ 2147483648) (hs : s.natAbs ≤ 32768) : pl (roundW 0 (roundW 0 (e8 z) (eI s)) (eI s)) = pl (roundW 0 (e8 z) (eI s)) ∧ U (e8 z) ∧ U (eI s) := by
  obtain ⟨a1, a2, a3, a4, a5⟩ := e8_parts z (by omega)
  obtain ⟨b1, b2, b3, b4, b5⟩ := eI_parts s (by omega)
  refine ⟨?_, a1, b1⟩
  obtain ⟨n1, i1⟩ := fin_isI a5
  obtain ⟨n2, i2⟩ := fin_isI b5
  by_cases h0 : s = 0
  · have e : FloatKind.f64.format.order (eI s) 0 = some .eq := order_zero _ b1 n2 (by rw [b3, h0, Int.natAbs_zero, Nat.zero_mul]; exact rnd_zero)
    have r1 : ∀ x, roundW 0 x (eI s) = QN := fun x => if_pos (.inr (.inr (.inl e)))
    rw [r1, r1]
  · have e : ¬ FloatKind.f64.format.order (eI s) 0 = some .eq := fun h => by
      have := (order_zero_iff _ b1 n2).1 h
      rw [this, Fl.val_zero] at b4
      have hp := one_pos
      rcases Nat.mul_eq_zero.1 b4.symm with c | c <;> omega
    have r1 : ∀ x, isN x = false → isI x = false → roundW 0 x (eI s) = roundF 0 x (eI s) := fun x hn hi => by
      unfold roundW
      rw [if_neg, if_neg (by rw [hi]; decide), if_neg (by rw [i2]; decide)]
      intro c
      rcases c with c | c | c | c
      · rw [hn] at c; cases c
      · rw [n2] at c; cases c
      · exact e c
      · rw [hi] at c; cases c.1
    obtain ⟨f1, f2, f3⟩ := five_law z s hz hs h0
    obtain ⟨n3, i3⟩ := fin_isI f2
    rw [r1 _ n1 i1, r1 _ n3 i3, f3]
theorem order_rg (a b : Nat) (ha : a < INF) (hb : b < INF) : FloatKind.f64.format.order a b = some (if a < b then .lt else if a = b then .eq else .gt) := by
  unfold INF at ha hb
  have k : ∀ c, c < 9218868437227405312 → isN c = false ∧ skey c = (c : Int) ∧ U c := fun c hc => by
    have hs : sg c = false := by unfold sg; exact decide_eq_false (by omega)
    have hr : rg c = c := rg_of_not hs
    refine ⟨by unfold isN INF; rw [hr]; exact decide_eq_false (by omega), by unfold skey; rw [hs, hr]; rfl, by unfold U; omega⟩
  obtain ⟨a1, a2, a3⟩ := k a ha
  obtain ⟨b1, b2, b3⟩ := k b hb
  rw [f64_order a b a3 b3, a1, b1, compare_int, a2, b2]
  simp only [Bool.or_self, Bool.false_eq_true, if_false, Int.ofNat_lt, Option.some.injEq]
  by_cases h : a < b
  · rw [if_pos h, if_pos h]
  · rw [if_neg h, if_neg h]
    by_cases h2 : a = b
    · rw [if_pos h2, if_pos (by omega)]
    · rw [if_neg h2, if_neg (by omega)]
end Go.Proofs.YthohhepoddnbnaaGreatDoor
