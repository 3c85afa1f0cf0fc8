/- The walk of CalcRests. -/
import Derived.Test.YthohhepoddnbnaaGreatDoorMgCbU
import Derived.Test.YthohhepoddnbnaaGreatDoorHyD
namespace Go.Proofs.YthohhepoddnbnaaGreatDoor
open Go.RowKit Fl

theorem U_sign (x : Nat) (hx : U x) : U (signW x) := by
  unfold signW
  split
  all_goals first | exact hx | (unfold U; decide)
theorem U_used (x : Nat) (hx : U x) : U (usedO x) := by
  unfold usedO
  repeat' split
  all_goals first | exact hx | (unfold U; decide)
theorem sameS (x y : Nat) (w : World) (hx : U x) (hy : U y) (h : pl y = pl x) : Calls Tryz.prog 12 #[.float .f64 x, .float .f64 y] w fun e w' => e = .returned (.bool true) ∧ w = w' :=
  (c12 x y w hx hy).mono fun e w' ⟨he, hw⟩ => ⟨by rw [he, h, beq_self_eq_true], hw⟩
set_option maxRecDepth 100000 in
set_option maxHeartbeats 2000000 in
theorem walkCalcRests (W : World) (hL : laidMetH Tryz.prog Rows.calcRestsRow.laid W) (x y : Nat) (hx : U x) (hy : U y) :
    Calls Tryz.prog 6 #[.float .f64 x, .float .f64 y] W fun e w' => e = .returned (.bool true) ∧ Below W.heap.size W w' := by
  have haw := Lib.hid (awake_ok (handle_of_laid rfl hL))
  have C15 := Lib.hid (fun w => lRemW x y w hx hy)
  have C18 := Lib.hid (fun w => rRemW x y w hx hy)
  have C16 := Lib.hid (fun w => lModW x y w hx hy)
  have C19 := Lib.hid (fun w => rModW x y w hx hy)
  have C20 := Lib.hid (fun w => lSign x w)
  have C21 := Lib.hid (fun w => rSign x w)
  have C22 := Lib.hid (fun w => lUsed x w hx)
  have C23 := Lib.hid (fun w => rUsed x w hx)
  have U1 := Lib.hid (U_remW y hx)
  have U2 := Lib.hid (U_modW y hx)
  have U3 := Lib.hid (U_sign x hx)
  have U4 := Lib.hid (U_used x hx)
  clear hL hx hy
  go_enter Tryz.func6, Tryz.ntmps6
  go_wp2_with (first
    | (go_at_call 9; refine haw.out.mono ?_; rintro e w1 ⟨rfl, hb⟩; have I := Lib.hid hb; clear hb)
    | (go_at_call 15; refine (C15.out _).mono ?_; rintro e w2 ⟨rfl, hb⟩; replace I := Lib.hid (I.out.trans (hb.mono I.out.size)); clear hb)
    | (go_at_call 18; refine (C18.out _).mono ?_; rintro e w3 ⟨⟨r1, rfl, hr, hp⟩, hb⟩; replace I := Lib.hid (I.out.trans (hb.mono I.out.size)); have S := Lib.hid (fun w => sameS _ _ w U1.out hr hp); clear hb hr hp)
    | (go_at_call 16; refine (C16.out _).mono ?_; rintro e w4 ⟨rfl, hb⟩; replace I := Lib.hid (I.out.trans (hb.mono I.out.size)); clear hb S)
    | (go_at_call 19; refine (C19.out _).mono ?_; rintro e w5 ⟨⟨r2, rfl, hr, hp⟩, hb⟩; replace I := Lib.hid (I.out.trans (hb.mono I.out.size)); have S := Lib.hid (fun w => sameS _ _ w U2.out hr hp); clear hb hr hp)
    | (go_at_call 20; refine (C20.out _).mono ?_; rintro e w' ⟨rfl, rfl⟩; clear S)
    | (go_at_call 21; refine (C21.out _).mono ?_; rintro e w' ⟨rfl, rfl⟩; have S := Lib.hid (fun w => sameS _ _ w U3.out U3.out rfl))
    | (go_at_call 22; refine (C22.out _).mono ?_; rintro e w' ⟨rfl, rfl⟩; clear S)
    | (go_at_call 23; refine (C23.out _).mono ?_; rintro e w' ⟨rfl, rfl⟩; have S := Lib.hid (fun w => sameS _ _ w U4.out U4.out rfl))
    | (go_at_call 12; refine (S.out _).mono ?_; rintro e w' ⟨rfl, rfl⟩))
  go_ret
  exact ⟨rfl, I.out⟩
theorem U_wf {x : Nat} (h : (Lit.float .f64 x).wf = true) : U x := by
  unfold U
  simpa [Lit.wf] using h
theorem walkCalcRests2 (W : World) (hL : laidMetH Tryz.prog Rows.calcRestsRow.laid W) (x : Nat) (wx : (Lit.float .f64 x).wf = true) (y : Nat) (wy : (Lit.float .f64 y).wf = true) :
    Calls Tryz.prog 6 #[.float .f64 x, .float .f64 y] W fun e w' => e = .returned (.bool true) ∧ Below W.heap.size W w' := walkCalcRests W hL x y (U_wf wx) (U_wf wy)
end Go.Proofs.YthohhepoddnbnaaGreatDoor
