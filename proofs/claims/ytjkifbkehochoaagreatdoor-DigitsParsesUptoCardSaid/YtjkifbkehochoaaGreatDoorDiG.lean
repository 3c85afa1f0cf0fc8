/- The walk of DigitsParses. -/
import Derived.Test.YtjkifbkehochoaaGreatDoorDiF
import Derived.Test.YtjkifbkehochoaaGreatDoorOpenS
import Derived.Test.YtjkifbkehochoaaGreatDoorAwA
import Derived.Test.YtjkifbkehochoaaGreatDoorDhO
namespace Go.Proofs.YtjkifbkehochoaaGreatDoor
open Go.RowKit Fl

set_option maxRecDepth 100000 in
set_option maxHeartbeats 1000000 in
/-- galleyref03.Same of one word -/
theorem rSameU (x : Nat) (w : World) (hu : U x) : Calls Tryz.prog 14 #[.float .f64 x, .float .f64 x] w fun e w' => e = .returned (.bool true) ∧ w = w' := by
  go_enter Tryz.func14, Tryz.ntmps14
  go_wp2
  go_ret
  exact ⟨rfl, rfl⟩
set_option maxRecDepth 100000 in
set_option maxHeartbeats 4000000 in
theorem walkParses0 (W : World) (haw : Calls Tryz.prog 9 #[] W fun e w' => e = .returned (.bool true) ∧ Below W.heap.size W w') (A : Option Addr) (ss : List ByteArray) (c : Nat) (hA : VR W A (SV ss)) (lc : ss.length ≤ c) (ls : c ≤ 1152921504606846976) (hs : ∀ s ∈ ss, s.size ≤ 1000000000) :
    Calls Tryz.prog 4 #[.slice A ss.length c] W fun e w' => e = .returned (.bool true) ∧ Below W.heap.size W w' := by
  have haw := Lib.hid haw
  have HA := Lib.hid hA
  have HS := Lib.hid hs
  have l1 : (ss.length : Int) ≤ 1152921504606846976 := by omega
  clear hA hs
  go_enter Tryz.func4, Tryz.ntmps4
  go_wp2_with (go_at_call 9; refine haw.out.mono ?_; rintro e w1 ⟨rfl, hb⟩; have I := Lib.hid hb; clear hb)
  go_loopw [4] (fun i wx => ∃ k : Nat, i = .int .i64 k ∧ Hid (k ≤ ss.length ∧ Below W.heap.size W wx)) (fun i _ => ss.length - (intOf i).toNat)
  case atStart => exact ⟨0, rfl, Lib.hid ⟨Nat.zero_le _, I.out⟩⟩
  case round =>
    obtain ⟨k, rfl, hI⟩ := hrel
    have k1 : (k : Int) ≤ (ss.length : Int) := by have := hI.out.1; omega
    by_cases h1 : k < ss.length
    · have i1 : (k : Int) < (ss.length : Int) := by omega
      obtain ⟨s, hs⟩ : ∃ s, ss[k]? = some s := ⟨ss[k], List.getElem?_eq_getElem h1⟩
      obtain ⟨b1, o1, rfl, p1, q1⟩ := (HA.out.below hI.out.2).at (k := k) (x := .string s) (by unfold SV; rw [List.getElem?_map, hs]; rfl)
      have sz := HS.out s (List.mem_of_getElem? hs)
      have CL := Lib.hid (fun w => lParse s w sz)
      have CR := Lib.hid (fun w => rParse s w sz)
      have hlt := pW_lt (bl s)
      obtain ⟨x, hx⟩ : ∃ x, x = pW (bl s) := ⟨_, rfl⟩
      obtain ⟨n, hn⟩ : ∃ n, n = pN (bl s) := ⟨_, rfl⟩
      obtain ⟨y, hy⟩ : ∃ y, y = pErr (bl s) := ⟨_, rfl⟩
      rw [← hx, ← hn, ← hy] at CL CR
      rw [← hx] at hlt
      have CS := Lib.hid (fun w => rSameU x w hlt)
      have HK := Lib.hid h1
      have PP := Lib.hid p1
      clear hx hn hy sz hs h1 p1
      go_wp2_with (first
        | (go_at_call 10; refine (CL.out _).mono ?_; rintro e w3 ⟨rfl, hb⟩; have q2 : w3.cell? ⟨b1, o1 + k, none⟩ = some (.string s) := (hb.cell (p := ⟨b1, o1 + k, none⟩) PP.out).trans q1; have J := Lib.hid hb; clear hb)
        | (go_at_call 13; refine (CR.out _).mono ?_; rintro e w4 ⟨rfl, hb⟩; have J2 := Lib.hid (J.out.trans (hb.mono J.out.size)); clear hb)
        | (go_at_call 14; refine (CS.out _).mono ?_; rintro e w5 ⟨rfl, rfl⟩))
      have E : Hid (k + 1 ≤ ss.length) := HK
      have BB2 := Lib.hid (hI.out.2.trans (J2.out.mono hI.out.2.size))
      go_roundw
      case rel => exact ⟨k + 1, by go_num, Lib.hid ⟨E.out, BB2.out⟩⟩
      case measure => have := E.out; simp [intOf]; omega
    · have i1 : ¬ (k : Int) < (ss.length : Int) := by omega
      have I2 := Lib.hid hI.out.2
      clear h1
      go_wp2_with fail
      go_ret
      exact ⟨rfl, I2.out⟩
theorem awake_parses {W : World} (h : laidMetH Tryz.prog Rows.digitsParsesUptoRow.laid W) : Calls Tryz.prog 9 #[] W fun e w' => e = .returned (.bool true) ∧ Below W.heap.size W w' := by
  rw [MakeChecks.laidMetH_plain _ _ _ (by kernel_rfl)] at h
  exact awake_ok fun i hi => pow_cells h i hi
theorem walkParses (W : World) (hL : laidMetH Tryz.prog Rows.digitsParsesUptoRow.laid W) (A : Option Addr) (ss : List ByteArray) (c : Nat) (hA : VR W A (SV ss)) (lc : ss.length ≤ c) (z0 : c ≤ 1048576) (hs : ∀ s ∈ ss, s.size ≤ 1048576) :
    Calls Tryz.prog 4 #[.slice A ss.length c] W fun e w' => e = .returned (.bool true) ∧ Below W.heap.size W w' :=
  walkParses0 W (awake_parses hL) A ss c hA lc (by omega) (fun s hs' => Nat.le_trans (hs s hs') (by omega))
end Go.Proofs.YtjkifbkehochoaaGreatDoor
