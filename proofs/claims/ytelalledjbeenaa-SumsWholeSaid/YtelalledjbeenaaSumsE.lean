/- Exact of no numbers. -/
import Derived.Test.YtelalledjbeenaaSumsD
namespace Go.Proofs.Ytelalledjbeenaa
open Go.RowKit Fl

set_option maxRecDepth 100000 in
set_option maxHeartbeats 1000000 in
theorem c23z (A : Option Addr) (c : Nat) (w : World) : Calls Try.prog 23 #[.slice A 0 c] w fun e w' => RetF (pV (accS [])) e ∧ Below w.heap.size w w' := by
  have HZ := Lib.hid (acc_small [] (by simp))
  go_enter Try.func23, Try.ntmps23
  go_wp2_with (go_at_call 35; fail)
  refine (c35 _).mono ?_
  rintro e w1 ⟨rfl, ha, hb1, hs1⟩
  have A0 : Hid (AccAt w1 w.heap.size (accS [])) := Lib.hid ha
  have B0 := Lib.hid hb1
  have S0 := Lib.hid hs1
  clear ha hb1 hs1
  go_wp2_with fail
  go_loopw [9] (fun i wx => i = .int .i64 0 ∧ Hid (AccAt wx w.heap.size (accS [])) ∧ Hid (Below w.heap.size w wx) ∧ Hid (w.heap.size < wx.heap.size)) (fun i _ => 1 - (intOf i).toNat)
  case atStart => exact ⟨rfl, A0, B0, S0⟩
  case round =>
    obtain ⟨rfl, hA, hB, hS⟩ := hrel
    clear A0 B0 S0
    go_wp2_with (go_at_call 39; fail)
    refine (c39 _ _ _ hA.out hS.out HZ.out.1 HZ.out.2).mono ?_
    rintro e w2 ⟨⟨r, rfl, hr⟩, hb2⟩
    have HB := Lib.hid (hB.out.trans (hb2.mono hB.out.size))
    have HR := Lib.hid hr
    clear hb2 hr
    go_wp2
    go_ret
    exact ⟨⟨r, rfl, HR.out⟩, HB.out⟩
end Go.Proofs.Ytelalledjbeenaa
