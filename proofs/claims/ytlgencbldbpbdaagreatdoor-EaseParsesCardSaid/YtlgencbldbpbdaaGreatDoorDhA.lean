/- large.Ten. -/
import Derived.Test.YtlgencbldbpbdaaGreatDoorLgN
import Derived.Deep.DeepCutAuto
import Derived.Deep.CutBlock
namespace Go.Proofs.YtlgencbldbpbdaaGreatDoor
open Go.RowKit Fl
theorem blen_ten (n : Nat) : blen (10 ^ n) ≤ 4 * n + 1 := by
 refine blen_lt _ _ ?_
 have h1 : 10 ^ n ≤ 16 ^ n := Nat.pow_le_pow_left (by decide) n
 have h2 : (16 : Nat) ^ n = 2 ^ (4 * n) := by rw [Nat.pow_mul]
 rw [h2] at h1
 rw [Nat.pow_succ]
 have := Nat.two_pow_pos (4 * n)
 omega
set_option maxRecDepth 100000 in
set_option maxHeartbeats 2000000 in
theorem lTen (n : Nat) (w : World) (hn : n ≤ 4000) :
  Calls Tryz.prog 188 #[.int .i64 n] w fun e w' => Below w.heap.size w w' ∧ ∃ v, e = .returned v ∧ NV w' v (10 ^ n) := by
 have CO := Lib.hid (c43 1 w (by decide))
 have CT := Lib.hid (fun (wx : World) v k m (h : NV wx v (10 ^ k)) (hk : k ≤ n) (hm : m < BB) => lTimes (c := 0) h (by have := blen_ten k; omega) hm BB_pos)
 have HN := Lib.hid hn
 have n1 : (n : Int) ≤ 4000 := by omega
 clear hn
 go_enter Tryz.func188, Tryz.ntmps188
 go_upto_block 0 with (go_at_call 244; refine CO.out.mono ?_; rintro e w1 ⟨hb, v1, rfl, hv⟩; have I := Lib.hid (And.intro hb hv); clear hb hv)
 go_cut [0, 3] (fun t v wx => ∃ m : Nat, t = .int .i64 m ∧ Hid (m ≤ n ∧ NV wx v (10 ^ (n - m)) ∧ Below w.heap.size w wx))
 case first =>
  go_wp2_with fail
  go_loopw [0, 3] (fun t v wx => ∃ m : Nat, t = .int .i64 m ∧ Hid (m ≤ n ∧ NV wx v (10 ^ (n - m)) ∧ Below w.heap.size w wx)) (fun t _ _ => (intOf t).toNat)
  case atStart => exact ⟨n, rfl, Lib.hid ⟨Nat.le_refl _, by rw [Nat.sub_self]; exact I.out.2, I.out.1⟩⟩
  case round =>
   obtain ⟨m, rfl, hI⟩ := hrel
   have m1 : (m : Int) ≤ 4000 := by have := hI.out.1; omega
   by_cases h : 19 ≤ m
   ·have h2 : (19 : Int) ≤ (m : Int) := by omega
    obtain ⟨k, rfl⟩ : ∃ k, m = k + 19 := ⟨m - 19, by omega⟩
    have C := Lib.hid (show Calls Tryz.prog 250 #[u3, .int .u64 10000000000000000000, .int .u64 0] wr _ from CT.out wr u3 _ 10000000000000000000 hI.out.2.1 (by omega) (by decide))
    have E : Hid (10 ^ (n - (k + 19)) * 10000000000000000000 + 0 = 10 ^ (n - k)) := Lib.hid (by
     rw [Nat.add_zero, show (10000000000000000000 : Nat) = 10 ^ 19 from by decide, ← Nat.pow_add]
     congr 1
     have := hI.out.1
     omega)
    have K : Hid (k ≤ n) := Lib.hid (by have := hI.out.1; omega)
    clear h
    go_wp2_with (go_at_call 250; refine C.out.mono ?_; rintro e w3 ⟨hb, v3, rfl, hv, -⟩; have J := Lib.hid (And.intro (hI.out.2.2.trans (hb.mono hI.out.2.2.size)) hv); clear hb hv)
    go_roundw
    case rel => exact ⟨k, by go_num, Lib.hid ⟨K.out, by rw [← E.out]; exact J.out.2, J.out.1⟩⟩
    case measure => simp [intOf]; omega
   ·have h2 : ¬ (19 : Int) ≤ (m : Int) := by omega
    clear h
    go_wp2_with fail
    go_meet
    exact ⟨m, rfl, hI⟩
 case rest =>
  obtain ⟨m0, rfl, hI0⟩ := hcut
  clear I
  go_wp2_with fail
  go_loopw [0, 3] (fun t v wx => ∃ m : Nat, t = .int .i64 m ∧ Hid (m ≤ n ∧ NV wx v (10 ^ (n - m)) ∧ Below w.heap.size w wx)) (fun t _ _ => (intOf t).toNat)
  case atStart => exact ⟨m0, rfl, hI0⟩
  case round =>
   obtain ⟨m, rfl, hI⟩ := hrel
   clear hI0
   have m1 : (m : Int) ≤ 4000 := by have := hI.out.1; omega
   rcases m with _ | k
   ·have R : Hid (NV wr u3 (10 ^ n)) := Lib.hid hI.out.2.1
    go_wp2
    go_ret
    exact ⟨hI.out.2.2, _, rfl, R.out⟩
   ·have C := Lib.hid (show Calls Tryz.prog 250 #[u3, .int .u64 10, .int .u64 0] wr _ from CT.out wr u3 _ 10 hI.out.2.1 (by omega) (by decide))
    have E : Hid (10 ^ (n - (k + 1)) * 10 + 0 = 10 ^ (n - k)) := Lib.hid (by
     rw [Nat.add_zero, ← Nat.pow_succ]
     congr 1
     have := hI.out.1
     omega)
    have K : Hid (k ≤ n) := Lib.hid (by have := hI.out.1; omega)
    go_wp2_with (go_at_call 250; refine C.out.mono ?_; rintro e w3 ⟨hb, v3, rfl, hv, -⟩; have J := Lib.hid (And.intro (hI.out.2.2.trans (hb.mono hI.out.2.2.size)) hv); clear hb hv)
    go_roundw
    case rel => exact ⟨k, by go_num, Lib.hid ⟨K.out, by rw [← E.out]; exact J.out.2, J.out.1⟩⟩
    case measure => simp [intOf]
end Go.Proofs.YtlgencbldbpbdaaGreatDoor
