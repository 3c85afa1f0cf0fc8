/- galleyref03.Number. -/
import Derived.Test.YtlgencbldbpbdaaGreatDoorMgRxB
import Derived.Test.YtlgencbldbpbdaaGreatDoorMgDjB
import Derived.Lib.SlBytesRow
namespace Go.Proofs.YtlgencbldbpbdaaGreatDoor.R
open Go.RowKit Fl
theorem one_byte (w : World) (d : Nat) (hd : d ≤ 9) : (convert 179 9 (.slice (some ⟨w.heap.size, 0, none⟩) 1 1)).run Tryz.prog (w.alloc (.cells #[.int .u8 (48 + (d : Int))] 5)) = .ok (.string ⟨#[UInt8.ofNat (48 + d)]⟩) (w.alloc (.cells #[.int .u8 (48 + (d : Int))] 5)) := by
 refine Lib.run_convert_whole _ 179 5 9 Tryz.underlying179 Tryz.underlying5 Tryz.underlying9 w.heap.size 0 ⟨#[UInt8.ofNat (48 + d)]⟩ (fun i hi => ?_) 1
 have h0 : i = 0 := by
  have : i < 1 := hi
  omega
 subst h0
 have e : ((⟨#[UInt8.ofNat (48 + d)]⟩ : ByteArray)[0]).toNat = 48 + d := by
  show (UInt8.ofNat (48 + d)).toNat = _
  rw [UInt8.toNat_ofNat', Nat.mod_eq_of_lt (by omega)]
 rw [e]
 simp [go_sem]
set_option maxRecDepth 100000 in
set_option maxHeartbeats 2000000 in
theorem cNumber : ∀ (n : Nat) (w : World), n < 18446744073709551616 → Calls Tryz.prog 109 #[.int .u64 n] w fun e w' => (∃ z : ByteArray, e = .returned (.string z) ∧ bl z = dgs n) ∧ Below w.heap.size w w' := by
 intro n
 induction n using Nat.strongRecOn with
 | ind n ih =>
 intro w hn
 obtain ⟨d, hd⟩ : ∃ d, d = n % 10 := ⟨_, rfl⟩
 obtain ⟨q, hq⟩ : ∃ q, q = n / 10 := ⟨_, rfl⟩
 have d0 : d ≤ 9 := by omega
 have d1 : (d : Int) ≤ 9 := by omega
 have d2 : (n : Int) % 10 = (d : Int) := by omega
 have d3 : (n : Int) / 10 = (q : Int) := by omega
 have d4 : IntKind.u8.wrap (48 + (d : Int)) = 48 + (d : Int) := by
  have e : IntKind.u8.wrap (48 + (d : Int)) = (48 + (d : Int)) % 256 := rfl
  rw [e]; omega
 have ni : (n : Int) ≤ 18446744073709551615 := by omega
 have kb := one_byte w d d0
 have B0 := Lib.hid (R.below_new w (.cells #[.int .u8 (48 + (d : Int))] 5))
 have zb : Hid (bl ⟨#[UInt8.ofNat (48 + d)]⟩ = [48 + d]) := Lib.hid (by
  show [(UInt8.ofNat (48 + d)).toNat] = _
  rw [UInt8.toNat_ofNat', Nat.mod_eq_of_lt (by omega)])
 obtain ⟨x, hx⟩ : ∃ x : UInt8, x = UInt8.ofNat (48 + d) := ⟨_, rfl⟩
 rw [← hx] at kb zb
 clear hx
 have HN : Hid (n < 10 → dgs n = [48 + d]) := Lib.hid (fun h => by rw [dgs_small h, hd, Nat.mod_eq_of_lt h])
 have HM : Hid (¬ n < 10 → dgs n = dgs q ++ [48 + d]) := Lib.hid (fun h => by rw [dgs_big h, hd, hq])
 have C : Hid (¬ n < 10 → ∀ w, Calls Tryz.prog 109 #[.int .u64 q] w fun e w' => (∃ z : ByteArray, e = .returned (.string z) ∧ bl z = dgs q) ∧ Below w.heap.size w w') := Lib.hid (fun h w => ih q (by omega) w (by omega))
 clear hd hq d0 ih hn
 by_cases h : n < 10
 ·have hi : (n : Int) < 10 := by omega
  have E := Lib.hid (HN.out h)
  clear h C HM HN
  go_enter Tryz.func109, Tryz.ntmps109
  go_upto_region 2 with fail
  generalize w.alloc (.cells #[.int .u8 (48 + (d : Int))] 5) = w1 at *
  clear kb
  go_wp2_with fail
  go_ret
  exact ⟨⟨_, rfl, by rw [E.out]; exact zb.out⟩, B0.out⟩
 ·have hi : ¬ (n : Int) < 10 := by omega
  have E := Lib.hid (HM.out h)
  have CC := Lib.hid (C.out h)
  have ql : Lib.nDigits q ≤ 20 := by
   refine nd_le ?_ (by decide)
   have : (10 : Nat) ^ 20 = 100000000000000000000 := by decide
   omega
  have QL := Lib.hid ql
  clear h C HM HN ql
  go_enter Tryz.func109, Tryz.ntmps109
  go_upto_region 2 with fail
  generalize w.alloc (.cells #[.int .u8 (48 + (d : Int))] 5) = w1 at *
  clear kb
  go_wp2_with (go_at_call 109; refine (CC.out _).mono ?_; rintro e w2 ⟨⟨z, rfl, hz⟩, hb⟩; have Z := Lib.hid hz; have B2 := Lib.hid (B0.out.trans (hb.mono B0.out.size)); have zs : (z.size : Int) ≤ 20 := (by have h1 := congrArg List.length hz; rw [bl_len, dgs_len] at h1; have := QL.out; omega); clear hb hz)
  go_ret
  exact ⟨⟨_, rfl, by rw [bl_append, Z.out, zb.out, E.out]⟩, B2.out⟩
end Go.Proofs.YtlgencbldbpbdaaGreatDoor.R
