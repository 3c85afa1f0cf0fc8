/- strconv.FormatUint in tens. The walks of Split, and of what Join is made of. Reading keeps the order of the digits. Plain laws. Plain laws of rounding bit by bit. -/
import Derived.Test.YtjkifbkehochoaaGreatDoorSh
import Derived.Test.YtjkifbkehochoaaGreatDoorMgDmD
import Derived.Lib.SmallJoins
import Derived.Lib.AppendIntMem
import Derived.BigCall
import Derived.BigGuard
import Derived.Test.YtjkifbkehochoaaGreatDoorMgBase
import Derived.Test.YtjkifbkehochoaaGreatDoorMgDjB
import Derived.Test.YtjkifbkehochoaaGreatDoorMgArith
namespace Go.Proofs.YtjkifbkehochoaaGreatDoor
open Go.RowKit Fl Go.Sort
abbrev PowTab (w : World) : Prop := Lib.TabIs Tryz.prog w "internal/strconv.uint64pow10" .u64 Lib.pow10Tab
theorem cSmall (i : Nat) (h : i < 100) (w : World) : Calls Tryz.prog 115 #[.int .i64 i] w fun e w' => e = .returned (.string ⟨(Lib.decDigits i).toArray⟩) ∧ w' = w := Any.internal_strconv_small lays283 i h w
theorem cDigs (u : Nat) (h1 : 1 ≤ u) (h2 : u < 18446744073709551616) (w : World) (htab : PowTab w) : Calls Tryz.prog 116 #[.int .u64 u] w fun e w' => e = .returned (.int .i64 (Lib.nDigits u)) ∧ w' = w := Any.internal_strconv_numDigits laysM284 u h1 h2 w htab
theorem cFmt (blk off cap : Nat) (u : Nat) (d : Array UInt8) (w : World) (hH : Holds (fun (b : UInt8) => Value.int .u8 (b.toNat : Int)) w blk off d) (hu : u < 10 ^ d.size) (hu64 : u < 18446744073709551616) (hsz : d.size < 4611686018427387904) :
    Calls Tryz.prog 117 #[.slice (some ⟨blk, off, none⟩) d.size cap, .int .u64 u] w fun e w' =>
      e = .returned (.tuple #[]) ∧ ∃ (n v' : Nat) (dk : Array UInt8), w' = (putRow (fun (b : UInt8) => Value.int .u8 (b.toNat : Int)) w blk off dk).drewN n ∧ Lib.FmtInv d.size u 0 v' dk := Any.internal_strconv_formatBase10 lays285 blk off cap u d w hH hu hu64 hsz
theorem holds_zero0 (w : World) (T : TypeId) (nd : Nat) (hs : nd ≤ 24) : Holds (fun (b : UInt8) => Value.int .u8 (b.toNat : Int)) (w.alloc (.cells Lib.zeros24 T)) w.heap.size 0 (Array.replicate nd (0 : UInt8)) := fun j hj => by
  have hj' : j < nd := by simpa using hj
  refine ⟨?_, World.frozen?_alloc_new _ _ _ _⟩
  rw [World.cell?_alloc_new, Lib.zeros24_at _ (by omega), getElem!_pos _ j hj]
  simp
theorem below_put0 (w : World) (o : Obj) (dk : Array UInt8) (k : Nat) : Below w.heap.size w ((putRow (fun (b : UInt8) => Value.int .u8 (b.toNat : Int)) (w.alloc o) w.heap.size 0 dk).drewN k) := by
  rw [alloc_eq_grow]
  obtain ⟨os', _, e⟩ := putRow_grow_new (fun (b : UInt8) => Value.int .u8 (b.toNat : Int)) w #[o] w.heap.size 0 dk (Nat.le_refl _)
  rw [e]
  exact BdN (Lib.below_grow w.heap.size w (Nat.le_refl _) 0 _) k
set_option maxRecDepth 100000 in
set_option maxHeartbeats 6400000 in
theorem cFU81 (u : Nat) (hu : u < 18446744073709551616) (w : World) (htab : PowTab w) :
    Calls Tryz.prog 81 #[.int .u64 u, .int .i64 10] w fun e w' => e = .returned (.string ⟨(Lib.decDigits u).toArray⟩) ∧ Below w.heap.size w w' := by
  by_cases hs : u < 100
  · have hsi : (u : Int) < 100 := by omega
    have CS := Lib.hid (fun w => cSmall u hs w)
    have wr : IntKind.i64.wrap (u : Int) = (u : Int) := IntWalk.i64_in _ (by omega)
    go_enter Tryz.func81, Tryz.ntmps81
    go_wp2_with (go_at_call 115; (try rw [wr]); refine (CS.out _).mono ?_; rintro e w' ⟨rfl, rfl⟩)
    go_ret
    exact ⟨rfl, Below.refl _ _⟩
  · have hsi : ¬ (u : Int) < 100 := by omega
    have hu1 : 1 ≤ u := by omega
    have hnd20 : Lib.nDigits u ≤ 20 := by have := Lib.numDigits_eq u hu1 hu; split at this <;> omega
    have hb3 : Lib.nDigits u ≤ 24 := by omega
    have hal : Tryz.prog.arrayLen 141 = 24 := by simp [Program.arrayLen, Tryz.underlying141]
    have hsl1 : ∀ W, (Instr.sliceAt 141 (.pointer (some ⟨w.heap.size, 0, none⟩)) none (some (.int .i64 (Lib.nDigits u : Int))) none).run Tryz.prog W = .ok (.slice (some ⟨w.heap.size, 0, none⟩) (Lib.nDigits u) 24) W := fun W => by
      rw [run_sliceAt_array_h W 141 ⟨w.heap.size, 0, none⟩ (by simp [Program.arrayLen, Program.elem, Tryz.underlying141]) .i64 (Lib.nDigits u : Int) (by omega) (by rw [hal]; omega)]
      go_simp
    have hH0 := holds_zero0 w 141 (Lib.nDigits u) (by omega)
    have hfmt := cFmt w.heap.size 0 24 u (Array.replicate (Lib.nDigits u) 0) (w.alloc (.cells Lib.zeros24 141)) hH0 (by rw [Array.size_replicate]; exact Lib.lt_pow_nDigits u) hu (by rw [Array.size_replicate]; omega)
    rw [Array.size_replicate] at hfmt
    have HH0 := Lib.hid hH0
    have CD := Lib.hid (cDigs u hu1 hu (w.alloc (.cells Lib.zeros24 141)) (Lib.tabIs_alloc htab _))
    clear hH0 hal htab
    go_enter Tryz.func81, Tryz.ntmps81
    go_wp2_with (first
      | (go_at_call 116; refine CD.out.mono ?_; rintro e w' ⟨rfl, rfl⟩))
    go_at_call 117
    refine hfmt.mono ?_
    rintro e w' ⟨rfl, k, v', dk, rfl, hF⟩
    have hcv : (convert 52 9 (.slice (some ⟨w.heap.size, 0, none⟩) (Lib.nDigits u) 24)).run Tryz.prog ((putRow (fun (b : UInt8) => Value.int .u8 (b.toNat : Int)) (w.alloc (.cells Lib.zeros24 141)) w.heap.size 0 dk).drewN k) = .ok (.string ⟨(Lib.decDigits u).toArray⟩) ((putRow (fun (b : UInt8) => Value.int .u8 (b.toNat : Int)) (w.alloc (.cells Lib.zeros24 141)) w.heap.size 0 dk).drewN k) := by
      have h := run_convert_bytes_back (P := Tryz.prog) ((putRow (fun (b : UInt8) => Value.int .u8 (b.toNat : Int)) (w.alloc (.cells Lib.zeros24 141)) w.heap.size 0 dk).drewN k) 52 9 5 ⟨w.heap.size, 0, none⟩ 24 (Lib.decDigits u) Tryz.underlying52 Tryz.underlying5 Tryz.underlying9 (fun j hj => by
        rw [Lib.row_is_numeral hF j hj, Lib.add_plain, World.cell?_drewN]
        exact cell?_putRow (fun (b : UInt8) => Value.int .u8 (b.toNat : Int)) _ w.heap.size 0 _ dk HH0.out (by rw [hF.size, Array.size_replicate]) j (by rw [hF.size]; rw [Lib.decDigits_length] at hj; exact hj))
      rw [Lib.decDigits_length] at h
      exact h
    go_wp2
    go_ret
    exact ⟨rfl, below_put0 w _ dk k⟩
/-- the numeral's bytes -/
theorem bl_dec (u : Nat) : bl ⟨(Lib.decDigits u).toArray⟩ = dgs u := by
  rfl
set_option maxRecDepth 100000 in
theorem cFU (u : Nat) (hu : u < 18446744073709551616) (w : World) (htab : PowTab w) :
    Calls Tryz.prog 41 #[.int .u64 u, .int .i64 10] w fun e w' => (∃ z : ByteArray, e = .returned (.string z) ∧ bl z = dgs u) ∧ Below w.heap.size w w' := by
  have C := Lib.hid (fun w htab => cFU81 u hu w htab)
  have T := Lib.hid htab
  have ui : (u : Int) < 18446744073709551616 := by omega
  clear htab
  go_enter Tryz.func41, Tryz.ntmps41
  go_wp2_with (go_at_call 81; refine (C.out _ T.out).mono ?_; rintro e w' ⟨rfl, hb⟩; have B := Lib.hid hb; clear hb)
  go_ret
  exact ⟨⟨_, rfl, bl_dec u⟩, B.out⟩
end Go.Proofs.YtjkifbkehochoaaGreatDoor

namespace Go.Proofs.YtjkifbkehochoaaGreatDoor
open Go.RowKit Fl
def eM (x : Nat) : Nat := x / 4503599627370496 % 2048
def fM (x : Nat) : Nat := x % 4503599627370496
def pNeg (x : Nat) : Bool := if eM x = 2047 ∧ fM x ≠ 0 then false else sg x
def pCls (x : Nat) : Int := if eM x = 2047 then (if fM x = 0 then 3 else 4) else if eM x = 0 then (if fM x = 0 then 0 else 1) else 2
def pMant (x : Nat) : Nat := if eM x = 2047 then 0 else if eM x = 0 then fM x else 4503599627370496 + fM x
def pExp (x : Nat) : Int := if eM x = 2047 then 0 else if eM x = 0 then (if fM x = 0 then 0 else -1074) else (eM x : Int) - 1075
def partsV (x : Nat) : Value := .agg #[.bool (pNeg x), .int .i64 (pCls x), .int .u64 (pMant x), .int .i64 (pExp x)]
theorem b_or52 (m : Nat) (h : m < 4503599627370496) : bits .or .u64 (m : Int) 4503599627370496 = 4503599627370496 + (m : Int) := by
  rw [show (4503599627370496 : Int) = ((4503599627370496 : Nat) : Int) from rfl, u64_or_nat _ _ (by omega) (by omega)]
  rw [Nat.or_comm, show (4503599627370496 : Nat) ||| m = 4503599627370496 + m from nat_join 52 (2 ^ 52) m (by decide) h]
  omega
theorem sgn_ne (x : Nat) (h : U x) : (bits .and .u64 (x : Int) 9223372036854775808 != 0) = sg x := by
  rw [b_sign x h]; cases sg x <;> rfl
set_option maxRecDepth 100000 in
set_option maxHeartbeats 1000000 in
theorem c30 (x : Nat) (w : World) (hx : U x) : Calls Tryz.prog 29 #[.float .f64 x] w fun e w' => e = .returned (partsV x) ∧ Below w.heap.size w w' := by
  have h1 := sgn_ne x hx
  have h2 := b_frac x hx
  have h3 := b_exp x hx
  have hm : fM x < 4503599627370496 := Nat.mod_lt _ (by decide)
  have he : eM x < 2048 := Nat.mod_lt _ (by decide)
  have h4 := b_or52 (fM x) hm
  have h5 : wrap64 (eM x : Int) = (eM x : Int) := by unfold wrap64; omega
  change bits .and .u64 (x : Int) 4503599627370495 = (fM x : Int) at h2
  change bits .and .u64 ((x : Int) / 4503599627370496) 2047 = (eM x : Int) at h3
  unfold partsV pNeg pCls pMant pExp
  generalize eM x = E at *
  generalize fM x = M at *
  generalize sg x = S at *
  have B1 : ∀ (w : World) (o : Obj), Below w.heap.size w (w.alloc o) := fun w o => (Below.refl _ _).alloc (Nat.le_refl _) _
  have B2 : ∀ (w : World) (o o' : Obj), Below w.heap.size w ((w.alloc o).alloc o') := fun w o o' => ((Below.refl _ _).alloc (Nat.le_refl _) _).alloc (by simp) _
  by_cases cE : E = 2047
  · subst cE
    by_cases cM : M = 0
    · subst cM
      go_enter Tryz.func29, Tryz.ntmps29
      go_wp2
      exact bodyPost_ret (v := .agg #[.bool S, .int .i64 3, .int .u64 0, .int .i64 0]) (by simp [results, Tryz.results29, go_sem]) rfl ⟨rfl, B2 _ _ _⟩
    · have d1 : ((M : Int) != 0) = true := by simp; omega
      simp only [cM, if_true, if_false, ne_eq, not_false_iff, and_self]
      go_enter Tryz.func29, Tryz.ntmps29
      go_wp2
      exact bodyPost_ret (v := .agg #[.bool false, .int .i64 4, .int .u64 0, .int .i64 0]) (by simp [results, Tryz.results29, go_sem]) rfl ⟨rfl, B2 _ _ _⟩
  · have d0 : ((E : Int) == 2047) = false := by simp; omega
    simp only [cE, if_false, false_and]
    by_cases cE0 : E = 0
    · subst cE0
      by_cases cM : M = 0
      · subst cM
        go_enter Tryz.func29, Tryz.ntmps29
        go_wp2
        exact bodyPost_ret (v := .agg #[.bool S, .int .i64 0, .int .u64 0, .int .i64 0]) (by simp [results, Tryz.results29, go_sem]) rfl ⟨rfl, B2 _ _ _⟩
      · have d1 : ((M : Int) == 0) = false := by simp; omega
        simp only [cM, if_true, if_false]
        go_enter Tryz.func29, Tryz.ntmps29
        go_wp2
        exact bodyPost_ret (v := .agg #[.bool S, .int .i64 1, .int .u64 M, .int .i64 (-1074)]) (by simp [results, Tryz.results29, go_sem]) rfl ⟨rfl, B2 _ _ _⟩
    · have d1 : ((E : Int) == 0) = false := by simp; omega
      simp only [cE0, if_false]
      go_enter Tryz.func29, Tryz.ntmps29
      go_wp2
      exact bodyPost_ret (v := .agg #[.bool S, .int .i64 2, .int .u64 (4503599627370496 + (M : Int)), .int .i64 ((E : Int) - 1075)]) (by simp [results, Tryz.results29, go_sem]) rfl ⟨by simp, B2 _ _ _⟩
end Go.Proofs.YtjkifbkehochoaaGreatDoor

namespace Go.Proofs.YtjkifbkehochoaaGreatDoor
open Fl
theorem nd_le {x k : Nat} (h : x < 10 ^ k) (hk : 0 < k) : Lib.nDigits x ≤ k := by
  rcases Nat.lt_or_ge k (Lib.nDigits x) with c | c
  · exfalso
    rcases Nat.eq_zero_or_pos x with h0 | h0
    · subst h0
      rw [Lib.nDigits_small (by decide)] at c; omega
    · have := Lib.nDigits_pos x
      have h2 := Lib.lt_pow_nDigits x
      have h3 : 10 ^ (Lib.nDigits x - 1) ≤ x := by
        rcases Nat.lt_or_ge x (10 ^ (Lib.nDigits x - 1)) with d | d
        · exfalso
          obtain ⟨m, hm⟩ : ∃ m, Lib.nDigits x = m + 1 := ⟨Lib.nDigits x - 1, by omega⟩
          rw [hm, Nat.add_sub_cancel] at d
          obtain ⟨q, hq1, hq2⟩ : ∃ q, 10 ^ q ≤ x ∧ x < 10 ^ (q + 1) := by
            clear h h2 c hm d this hk
            induction x using Nat.strongRecOn with
            | ind x ih =>
              by_cases hx : x < 10
              · exact ⟨0, by rw [Nat.pow_zero]; exact h0, by simpa using hx⟩
              · obtain ⟨q, a, b⟩ := ih (x / 10) (by omega) (by omega)
                exact ⟨q + 1, by rw [Nat.pow_succ]; omega, by rw [Nat.pow_succ]; omega⟩
          have h5 := Lib.nDigits_unique q x hq1 hq2
          have : q = m := by omega
          subst this
          omega
        · exact d
      have h4 := Nat.pow_le_pow_right (show 0 < 10 by decide) (show k ≤ Lib.nDigits x - 1 by omega)
      omega
  · exact c
end Go.Proofs.YtjkifbkehochoaaGreatDoor

namespace Go.Proofs.YtjkifbkehochoaaGreatDoor.Fl
end Go.Proofs.YtjkifbkehochoaaGreatDoor.Fl
