/- strconv.FormatUint in tens. -/
import Derived.Test.YtlgencbldbpbdaaGreatDoorSh
import Derived.Test.YtlgencbldbpbdaaGreatDoorMgDmD
import Derived.Lib.SmallJoins
import Derived.Lib.AppendIntMem
import Derived.BigCall
import Derived.BigGuard
namespace Go.Proofs.YtlgencbldbpbdaaGreatDoor
open Go.RowKit Fl Go.Sort
abbrev PowTab (w : World) : Prop := Lib.TabIs Tryz.prog w "internal/strconv.uint64pow10" .u64 Lib.pow10Tab
theorem cSmall (i : Nat) (h : i < 100) (w : World) : Calls Tryz.prog 151 #[.int .i64 i] w fun e w' => e = .returned (.string ⟨(Lib.decDigits i).toArray⟩) ∧ w' = w := Any.internal_strconv_small lays283 i h w
theorem cDigs (u : Nat) (h1 : 1 ≤ u) (h2 : u < 18446744073709551616) (w : World) (htab : PowTab w) : Calls Tryz.prog 152 #[.int .u64 u] w fun e w' => e = .returned (.int .i64 (Lib.nDigits u)) ∧ w' = w := Any.internal_strconv_numDigits laysM284 u h1 h2 w htab
theorem cFmt (blk off cap : Nat) (u : Nat) (d : Array UInt8) (w : World) (hH : Holds (fun (b : UInt8) => Value.int .u8 (b.toNat : Int)) w blk off d) (hu : u < 10 ^ d.size) (hu64 : u < 18446744073709551616) (hsz : d.size < 4611686018427387904) :
  Calls Tryz.prog 153 #[.slice (some ⟨blk, off, none⟩) d.size cap, .int .u64 u] w fun e w' =>
   e = .returned (.tuple #[]) ∧ ∃ (n v' : Nat) (dk : Array UInt8), w' = (putRow (fun (b : UInt8) => Value.int .u8 (b.toNat : Int)) w blk off dk).drewN n ∧ Lib.FmtInv d.size u 0 v' dk := Any.internal_strconv_formatBase10 lays285 blk off cap u d w hH hu hu64 hsz
theorem holds_zero0 (w : World) (T : TypeId) (nd : Nat) (hs : nd ≤ 24) : Holds (fun (b : UInt8) => Value.int .u8 (b.toNat : Int)) (w.alloc (.cells Lib.zeros24 T)) w.heap.size 0 (Array.replicate nd (0 : UInt8)) := fun j hj => by
 have hj' : j < nd := by simpa using hj
 refine ⟨?_, World.frozen?_alloc_new _ _ _ _⟩
 rw [World.cell?_alloc_new, Lib.zeros24_at _ (by omega), getElem!_pos _ j hj]
 simp
theorem below_put0 (w : World) (o : Obj) (dk : Array UInt8) (k : Nat) : Below w.heap.size w ((putRow (fun (b : UInt8) => Value.int .u8 (b.toNat : Int)) (w.alloc o) w.heap.size 0 dk).drewN k) := by
 rw [alloc_eq_grow]
 obtain ⟨os', _, e⟩ := putRow_grow_new (fun (b : UInt8) => Value.int .u8 (b.toNat : Int)) w #[o] w.heap.size 0 dk (Nat.le_refl _)
 rw [e]
 exact BdN (Lib.below_grow w.heap.size w (Nat.le_refl _) 0 _) k
set_option maxRecDepth 100000 in
set_option maxHeartbeats 6400000 in
theorem cFU81 (u : Nat) (hu : u < 18446744073709551616) (w : World) (htab : PowTab w) :
  Calls Tryz.prog 254 #[.int .u64 u, .int .i64 10] w fun e w' => e = .returned (.string ⟨(Lib.decDigits u).toArray⟩) ∧ Below w.heap.size w w' := by
 by_cases hs : u < 100
 ·have hsi : (u : Int) < 100 := by omega
  have CS := Lib.hid (fun w => cSmall u hs w)
  have wr : IntKind.i64.wrap (u : Int) = (u : Int) := IntWalk.i64_in _ (by omega)
  go_enter Tryz.func254, Tryz.ntmps254
  go_wp2_with (go_at_call 151; (try rw [wr]); refine (CS.out _).mono ?_; rintro e w' ⟨rfl, rfl⟩)
  go_ret
  exact ⟨rfl, Below.refl _ _⟩
 ·have hsi : ¬ (u : Int) < 100 := by omega
  have hu1 : 1 ≤ u := by omega
  have hnd20 : Lib.nDigits u ≤ 20 := by have := Lib.numDigits_eq u hu1 hu; split at this <;> omega
  have hb3 : Lib.nDigits u ≤ 24 := by omega
  have hal : Tryz.prog.arrayLen 212 = 24 := by simp [Program.arrayLen, Tryz.underlying212]
  have hsl1 : ∀ W, (Instr.sliceAt 212 (.pointer (some ⟨w.heap.size, 0, none⟩)) none (some (.int .i64 (Lib.nDigits u : Int))) none).run Tryz.prog W = .ok (.slice (some ⟨w.heap.size, 0, none⟩) (Lib.nDigits u) 24) W := fun W => by
   rw [run_sliceAt_array_h W 212 ⟨w.heap.size, 0, none⟩ (by simp [Program.arrayLen, Program.elem, Tryz.underlying212]) .i64 (Lib.nDigits u : Int) (by omega) (by rw [hal]; omega)]
   go_simp
  have hH0 := holds_zero0 w 212 (Lib.nDigits u) (by omega)
  have hfmt := cFmt w.heap.size 0 24 u (Array.replicate (Lib.nDigits u) 0) (w.alloc (.cells Lib.zeros24 212)) hH0 (by rw [Array.size_replicate]; exact Lib.lt_pow_nDigits u) hu (by rw [Array.size_replicate]; omega)
  rw [Array.size_replicate] at hfmt
  have HH0 := Lib.hid hH0
  have CD := Lib.hid (cDigs u hu1 hu (w.alloc (.cells Lib.zeros24 212)) (Lib.tabIs_alloc htab _))
  clear hH0 hal htab
  go_enter Tryz.func254, Tryz.ntmps254
  go_wp2_with (first
   | (go_at_call 152; refine CD.out.mono ?_; rintro e w' ⟨rfl, rfl⟩))
  go_at_call 153
  refine hfmt.mono ?_
  rintro e w' ⟨rfl, k, v', dk, rfl, hF⟩
  have hcv : (convert 179 9 (.slice (some ⟨w.heap.size, 0, none⟩) (Lib.nDigits u) 24)).run Tryz.prog ((putRow (fun (b : UInt8) => Value.int .u8 (b.toNat : Int)) (w.alloc (.cells Lib.zeros24 212)) w.heap.size 0 dk).drewN k) = .ok (.string ⟨(Lib.decDigits u).toArray⟩) ((putRow (fun (b : UInt8) => Value.int .u8 (b.toNat : Int)) (w.alloc (.cells Lib.zeros24 212)) w.heap.size 0 dk).drewN k) := by
   have h := run_convert_bytes_back (P := Tryz.prog) ((putRow (fun (b : UInt8) => Value.int .u8 (b.toNat : Int)) (w.alloc (.cells Lib.zeros24 212)) w.heap.size 0 dk).drewN k) 179 9 5 ⟨w.heap.size, 0, none⟩ 24 (Lib.decDigits u) Tryz.underlying179 Tryz.underlying5 Tryz.underlying9 (fun j hj => by
    rw [Lib.row_is_numeral hF j hj, Lib.add_plain, World.cell?_drewN]
    exact cell?_putRow (fun (b : UInt8) => Value.int .u8 (b.toNat : Int)) _ w.heap.size 0 _ dk HH0.out (by rw [hF.size, Array.size_replicate]) j (by rw [hF.size]; rw [Lib.decDigits_length] at hj; exact hj))
   rw [Lib.decDigits_length] at h
   exact h
  go_wp2
  go_ret
  exact ⟨rfl, below_put0 w _ dk k⟩
theorem bl_dec (u : Nat) : bl ⟨(Lib.decDigits u).toArray⟩ = dgs u := by
 rfl
set_option maxRecDepth 100000 in
theorem cFU (u : Nat) (hu : u < 18446744073709551616) (w : World) (htab : PowTab w) :
  Calls Tryz.prog 190 #[.int .u64 u, .int .i64 10] w fun e w' => (∃ z : ByteArray, e = .returned (.string z) ∧ bl z = dgs u) ∧ Below w.heap.size w w' := by
 have C := Lib.hid (fun w htab => cFU81 u hu w htab)
 have T := Lib.hid htab
 have ui : (u : Int) < 18446744073709551616 := by omega
 clear htab
 go_enter Tryz.func190, Tryz.ntmps190
 go_wp2_with (go_at_call 254; refine (C.out _ T.out).mono ?_; rintro e w' ⟨rfl, hb⟩; have B := Lib.hid hb; clear hb)
 go_ret
 exact ⟨⟨_, rfl, bl_dec u⟩, B.out⟩
end Go.Proofs.YtlgencbldbpbdaaGreatDoor
