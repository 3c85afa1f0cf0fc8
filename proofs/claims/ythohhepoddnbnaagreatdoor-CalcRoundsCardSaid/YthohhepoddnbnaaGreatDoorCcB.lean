/- The walk of CalcRounds. -/
import Derived.Test.YthohhepoddnbnaaGreatDoorMgCbU
import Derived.Test.YthohhepoddnbnaaGreatDoorCcA
namespace Go.Proofs.YthohhepoddnbnaaGreatDoor
open Go.RowKit Fl

set_option maxRecDepth 100000 in
set_option maxHeartbeats 2000000 in
theorem walkCalcRounds (W : World) (hL : laidMetH Tryz.prog Rows.calcRoundsRow.laid W) (s : ByteArray) (x : Nat) (wx : (Lit.float .f64 x).wf = true) (y : Nat) (wy : (Lit.float .f64 y).wf = true) :
    Calls Tryz.prog 3 #[.string s, .float .f64 x, .float .f64 y] W fun e w' => e = .returned (.bool true) ∧ Below W.heap.size W w' := by
  have hx := U_wf wx
  have hy := U_wf wy
  have haw := Lib.hid (awake_ok (handle_of_laid rfl hL))
  by_cases hk : WKi s = 4
  · have C10 := Lib.hid (fun w => lRound4 s x y w hk)
    have C11 := Lib.hid (fun w => rRound4 s x y w hk)
    have U0 : U 0 := U_0
    have S := Lib.hid (fun w => sameS 0 0 w U0 U0 rfl)
    clear hL hx hy wx wy hk U0
    go_enter Tryz.func3, Tryz.ntmps3
    go_wp2_with (first
      | (go_at_call 9; refine haw.out.mono ?_; rintro e w1 ⟨rfl, hb⟩; have I := Lib.hid hb; clear hb)
      | (go_at_call 10; refine (C10.out _).mono ?_; rintro e w' ⟨rfl, rfl⟩)
      | (go_at_call 11; refine (C11.out _).mono ?_; rintro e w' ⟨rfl, rfl⟩)
      | (go_at_call 12; refine (S.out _).mono ?_; rintro e w' ⟨rfl, rfl⟩))
    go_ret
    exact ⟨rfl, I.out⟩
  · have C10 := Lib.hid (fun w => lRoundW s x y w hx hy hk)
    have C11 := Lib.hid (fun w => rRoundW s x y w hx hy hk)
    have U1 := Lib.hid (U_round (WKi s) y hx)
    clear hL hx hy wx wy hk
    go_enter Tryz.func3, Tryz.ntmps3
    go_wp2_with (first
      | (go_at_call 9; refine haw.out.mono ?_; rintro e w1 ⟨rfl, hb⟩; have I := Lib.hid hb; clear hb)
      | (go_at_call 10; refine (C10.out _).mono ?_; rintro e w2 ⟨rfl, hb⟩; replace I := Lib.hid (I.out.trans (hb.mono I.out.size)); clear hb)
      | (go_at_call 11; refine (C11.out _).mono ?_; rintro e w3 ⟨⟨r1, rfl, hr, hp⟩, hb⟩; replace I := Lib.hid (I.out.trans (hb.mono I.out.size)); have S := Lib.hid (fun w => sameS _ _ w U1.out hr hp); clear hb hr hp)
      | (go_at_call 12; refine (S.out _).mono ?_; rintro e w' ⟨rfl, rfl⟩))
    go_ret
    exact ⟨rfl, I.out⟩
theorem walkCalcRounds2 (W : World) (hL : laidMetH Tryz.prog Rows.calcRoundsRow.laid W) (s : ByteArray) {p : Prop} (_ : p) (x : Nat) (wx : (Lit.float .f64 x).wf = true) (y : Nat) (wy : (Lit.float .f64 y).wf = true) :
    Calls Tryz.prog 3 #[.string s, .float .f64 x, .float .f64 y] W fun e w' => e = .returned (.bool true) ∧ Below W.heap.size W w' := walkCalcRounds W hL s x wx y wy
end Go.Proofs.YthohhepoddnbnaaGreatDoor
