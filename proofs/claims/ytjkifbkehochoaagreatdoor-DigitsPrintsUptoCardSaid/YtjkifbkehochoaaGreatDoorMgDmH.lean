/- strconv.FormatUint in tens. The walks of Split, and of what Join is made of. Reading keeps the order of the digits. Plain laws. Plain laws of rounding bit by bit. -/
import Derived.Test.YtjkifbkehochoaaGreatDoorSh
import Derived.Test.YtjkifbkehochoaaGreatDoorMgDmD
import Derived.Lib.SmallJoins
import Derived.Lib.AppendIntMem
import Derived.BigCall
import Derived.BigGuard
import Derived.Test.YtjkifbkehochoaaGreatDoorMgBase
import Derived.Test.YtjkifbkehochoaaGreatDoorMgDjB
import Derived.Test.YtjkifbkehochoaaGreatDoorMgArith
namespace Go.Proofs.YtjkifbkehochoaaGreatDoor
open Go.RowKit Fl Go.Sort

abbrev PowTab (w : World) : Prop := Lib.TabIs Tryz.prog w "internal/strconv.uint64pow10" .u64 Lib.pow10Tab
theorem cSmall (i : Nat) (h : i < 100) (w : World) : Calls Tryz.prog 115 #[.int .i64 i] w fun e w' => e = .returned (.string ⟨(Lib.decDigits i).toArray⟩) ∧ w' = w := Any.internal_strconv_small lays283 i h w
theorem cDigs (u : Nat) (h1 : 1 ≤ u) (h2 : u < 18446744073709551616) (w : World) (htab : PowTab w) : Calls Tryz.prog 116 #[.int .u64 u] w fun e w' => e = .returned (.int .i64 (Lib.nDigits u)) ∧ w' = w := Any.internal_strconv_numDigits laysM284 u h1 h2 w htab
theorem cFmt (blk off cap : Nat) (u : Nat) (d : Array UInt8) (w : World) (hH : Holds (fun (b : UInt8) => Value.int .u8 (b.toNat : Int)) w blk off d) (hu : u < 10 ^ d.size) (hu64 : u < 18446744073709551616) (hsz : d.size < 4611686018427387904) :
    Calls Tryz.prog 117 #[.slice (some ⟨blk, off, none⟩) d.size cap, .int .u64 u] w fun e w' =>
      e = .returned (.tuple #[]) ∧ ∃ (n v' : Nat) (dk : Array UInt8), w' = (putRow (fun (b : UInt8) => Value.int .u8 (b.toNat : Int)) w blk off dk).drewN n ∧ Lib.FmtInv d.size u 0 v' dk := Any.internal_strconv_formatBase10 lays285 blk off cap u d w hH hu hu64 hsz
theorem holds_zero0 (w : World) (T : TypeId) (nd : Nat) (hs : nd ≤ 24) : Holds (fun (b : UInt8) => Value.int .u8 (b.toNat : Int)) (w.alloc (.cells Lib.zeros24 T)) w.heap.size 0 (Array.replicate nd (0 : UInt8)) := fun j hj => by
  have hj' : j < nd := by simpa using hj
  refine ⟨?_, World.frozen?_alloc_new _ _ _ _⟩
  rw [World.cell?_alloc_new, Lib.zeros24_at _ (by omega), getElem!_pos _ j hj]
  simp
theorem below_put0 (w : World) (o : Obj) (dk : Array UInt8) (k : Nat) : Below w.heap.size w ((putRow (fun (b : UInt8) => Value.int .u8 (b.toNat : Int)) (w.alloc o) w.heap.size 0 dk).drewN k) := by
  rw [alloc_eq_grow]
  obtain ⟨os', _, e⟩ := putRow_grow_new (fun (b : UInt8) => Value.int .u8 (b.toNat : Int)) w #[o] w.heap.size 0 dk (Nat.le_refl _)
  rw [e]
  exact BdN (Lib.below_grow w.heap.size w (Nat.le_refl _) 0 _) k
set_option maxRecDepth 100000 in
set_option maxHeartbeats 6400000 in
theorem cFU81 (u : Nat) (hu : u < 18446744073709551616) (w : World) (htab : PowTab w) :
    Calls Tryz.prog 81 #[.int .u64 u, .int .i64 10] w fun e w' => e = .returned (.string ⟨(Lib.decDigits u).toArray⟩) ∧ Below w.heap.size w w' := by
  by_cases hs : u < 100
  · have hsi : (u : Int) < 100 := by omega
    have CS := Lib.hid (fun w => cSmall u hs w)
    have wr : IntKind.i64.wrap (u : Int) = (u : Int) := IntWalk.i64_in _ (by omega)
    go_enter Tryz.func81, Tryz.ntmps81
    go_wp2_with (go_at_call 115; (try rw [wr]); refine (CS.out _).mono ?_; rintro e w' ⟨rfl, rfl⟩)
    go_ret
    exact ⟨rfl, Below.refl _ _⟩
  · have hsi : ¬ (u : Int) < 100 := by omega
    have hu1 : 1 ≤ u := by omega
    have hnd20 : Lib.nDigits u ≤ 20 := by have := Lib.numDigits_eq u hu1 hu; split at this <;> omega
    have hb3 : Lib.nDigits u ≤ 24 := by omega
    have hal : Tryz.prog.arrayLen 141 = 24 := by simp [Program.arrayLen, Tryz.underlying141]
    have hsl1 : ∀ W, (Instr.sliceAt 141 (.pointer (some ⟨w.heap.size, 0, none⟩)) none (some (.int .i64 (Lib.nDigits u : Int))) none).run Tryz.prog W = .ok (.slice (some ⟨w.heap.size, 0, none⟩) (Lib.nDigits u) 24) W := fun W => by
      rw [run_sliceAt_array_h W 141 ⟨w.heap.size, 0, none⟩ (by simp [Program.arrayLen, Program.elem, Tryz.underlying141]) .i64 (Lib.nDigits u : Int) (by omega) (by rw [hal]; omega)]
      go_simp
    have hH0 := holds_zero0 w 141 (Lib.nDigits u) (by omega)
    have hfmt := cFmt w.heap.size 0 24 u (Array.replicate (Lib.nDigits u) 0) (w.alloc (.cells Lib.zeros24 141)) hH0 (by rw [Array.size_replicate]; exact Lib.lt_pow_nDigits u) hu (by rw [Array.size_replicate]; omega)
    rw [Array.size_replicate] at hfmt
    have HH0 := Lib.hid hH0
    have CD := Lib.hid (cDigs u hu1 hu (w.alloc (.cells Lib.zeros24 141)) (Lib.tabIs_alloc htab _))
    clear hH0 hal htab
    go_enter Tryz.func81, Tryz.ntmps81
    go_wp2_with (first
      | (go_at_call 116; refine CD.out.mono ?_; rintro e w' ⟨rfl, rfl⟩))
    go_at_call 117
    refine hfmt.mono ?_
    rintro e w' ⟨rfl, k, v', dk, rfl, hF⟩
    have hcv : (convert 52 9 (.slice (some ⟨w.heap.size, 0, none⟩) (Lib.nDigits u) 24)).run Tryz.prog ((putRow (fun (b : UInt8) => Value.int .u8 (b.toNat : Int)) (w.alloc (.cells Lib.zeros24 141)) w.heap.size 0 dk).drewN k) = .ok (.string ⟨(Lib.decDigits u).toArray⟩) ((putRow (fun (b : UInt8) => Value.int .u8 (b.toNat : Int)) (w.alloc (.cells Lib.zeros24 141)) w.heap.size 0 dk).drewN k) := by
      have h := run_convert_bytes_back (P := Tryz.prog) ((putRow (fun (b : UInt8) => Value.int .u8 (b.toNat : Int)) (w.alloc (.cells Lib.zeros24 141)) w.heap.size 0 dk).drewN k) 52 9 5 ⟨w.heap.size, 0, none⟩ 24 (Lib.decDigits u) Tryz.underlying52 Tryz.underlying5 Tryz.underlying9 (fun j hj => by
        rw [Lib.row_is_numeral hF j hj, Lib.add_plain, World.cell?_drewN]
        exact cell?_putRow (fun (b : UInt8) => Value.int .u8 (b.toNat : Int)) _ w.heap.size 0 _ dk HH0.out (by rw [hF.size, Array.size_replicate]) j (by rw [hF.size]; rw [Lib.decDigits_length] at hj; exact hj))
      rw [Lib.decDigits_length] at h
      exact h
    go_wp2
    go_ret
    exact ⟨rfl, below_put0 w _ dk k⟩
/-- the numeral's bytes -/
theorem bl_dec (u : Nat) : bl ⟨(Lib.decDigits u).toArray⟩ = dgs u := by
  rfl
set_option maxRecDepth 100000 in
theorem cFU (u : Nat) (hu : u < 18446744073709551616) (w : World) (htab : PowTab w) :
    Calls Tryz.prog 41 #[.int .u64 u, .int .i64 10] w fun e w' => (∃ z : ByteArray, e = .returned (.string z) ∧ bl z = dgs u) ∧ Below w.heap.size w w' := by
  have C := Lib.hid (fun w htab => cFU81 u hu w htab)
  have T := Lib.hid htab
  have ui : (u : Int) < 18446744073709551616 := by omega
  clear htab
  go_enter Tryz.func41, Tryz.ntmps41
  go_wp2_with (go_at_call 81; refine (C.out _ T.out).mono ?_; rintro e w' ⟨rfl, hb⟩; have B := Lib.hid hb; clear hb)
  go_ret
  exact ⟨⟨_, rfl, bl_dec u⟩, B.out⟩
end Go.Proofs.YtjkifbkehochoaaGreatDoor

namespace Go.Proofs.YtjkifbkehochoaaGreatDoor
open Go.RowKit Fl

def eM (x : Nat) : Nat := x / 4503599627370496 % 2048
def fM (x : Nat) : Nat := x % 4503599627370496
def pNeg (x : Nat) : Bool := if eM x = 2047 ∧ fM x ≠ 0 then false else sg x
def pCls (x : Nat) : Int := if eM x = 2047 then (if fM x = 0 then 3 else 4) else if eM x = 0 then (if fM x = 0 then 0 else 1) else 2
def pMant (x : Nat) : Nat := if eM x = 2047 then 0 else if eM x = 0 then fM x else 4503599627370496 + fM x
def pExp (x : Nat) : Int := if eM x = 2047 then 0 else if eM x = 0 then (if fM x = 0 then 0 else -1074) else (eM x : Int) - 1075
def partsV (x : Nat) : Value := .agg #[.bool (pNeg x), .int .i64 (pCls x), .int .u64 (pMant x), .int .i64 (pExp x)]

theorem b_or52 (m : Nat) (h : m < 4503599627370496) : bits .or .u64 (m : Int) 4503599627370496 = 4503599627370496 + (m : Int) := by
  rw [show (4503599627370496 : Int) = ((4503599627370496 : Nat) : Int) from rfl, u64_or_nat _ _ (by omega) (by omega)]
  rw [Nat.or_comm, show (4503599627370496 : Nat) ||| m = 4503599627370496 + m from nat_join 52 (2 ^ 52) m (by decide) h]
  omega

theorem sgn_ne (x : Nat) (h : U x) : (bits .and .u64 (x : Int) 9223372036854775808 != 0) = sg x := by
  rw [b_sign x h]; cases sg x <;> rfl

set_option maxRecDepth 100000 in
set_option maxHeartbeats 1000000 in
theorem c30 (x : Nat) (w : World) (hx : U x) : Calls Tryz.prog 29 #[.float .f64 x] w fun e w' => e = .returned (partsV x) ∧ Below w.heap.size w w' := by
  have h1 := sgn_ne x hx
  have h2 := b_frac x hx
  have h3 := b_exp x hx
  have hm : fM x < 4503599627370496 := Nat.mod_lt _ (by decide)
  have he : eM x < 2048 := Nat.mod_lt _ (by decide)
  have h4 := b_or52 (fM x) hm
  have h5 : wrap64 (eM x : Int) = (eM x : Int) := by unfold wrap64; omega
  change bits .and .u64 (x : Int) 4503599627370495 = (fM x : Int) at h2
  change bits .and .u64 ((x : Int) / 4503599627370496) 2047 = (eM x : Int) at h3
  unfold partsV pNeg pCls pMant pExp
  generalize eM x = E at *
  generalize fM x = M at *
  generalize sg x = S at *
  have B1 : ∀ (w : World) (o : Obj), Below w.heap.size w (w.alloc o) := fun w o => (Below.refl _ _).alloc (Nat.le_refl _) _
  have B2 : ∀ (w : World) (o o' : Obj), Below w.heap.size w ((w.alloc o).alloc o') := fun w o o' => ((Below.refl _ _).alloc (Nat.le_refl _) _).alloc (by simp) _
  by_cases cE : E = 2047
  · subst cE
    by_cases cM : M = 0
    · subst cM
      go_enter Tryz.func29, Tryz.ntmps29
      go_wp2
      exact bodyPost_ret (v := .agg #[.bool S, .int .i64 3, .int .u64 0, .int .i64 0]) (by simp [results, Tryz.results29, go_sem]) rfl ⟨rfl, B2 _ _ _⟩
    · have d1 : ((M : Int) != 0) = true := by simp; omega
      simp only [cM, if_true, if_false, ne_eq, not_false_iff, and_self]
      go_enter Tryz.func29, Tryz.ntmps29
      go_wp2
      exact bodyPost_ret (v := .agg #[.bool false, .int .i64 4, .int .u64 0, .int .i64 0]) (by simp [results, Tryz.results29, go_sem]) rfl ⟨rfl, B2 _ _ _⟩
  · have d0 : ((E : Int) == 2047) = false := by simp; omega
    simp only [cE, if_false, false_and]
    by_cases cE0 : E = 0
    · subst cE0
      by_cases cM : M = 0
      · subst cM
        go_enter Tryz.func29, Tryz.ntmps29
        go_wp2
        exact bodyPost_ret (v := .agg #[.bool S, .int .i64 0, .int .u64 0, .int .i64 0]) (by simp [results, Tryz.results29, go_sem]) rfl ⟨rfl, B2 _ _ _⟩
      · have d1 : ((M : Int) == 0) = false := by simp; omega
        simp only [cM, if_true, if_false]
        go_enter Tryz.func29, Tryz.ntmps29
        go_wp2
        exact bodyPost_ret (v := .agg #[.bool S, .int .i64 1, .int .u64 M, .int .i64 (-1074)]) (by simp [results, Tryz.results29, go_sem]) rfl ⟨rfl, B2 _ _ _⟩
    · have d1 : ((E : Int) == 0) = false := by simp; omega
      simp only [cE0, if_false]
      go_enter Tryz.func29, Tryz.ntmps29
      go_wp2
      exact bodyPost_ret (v := .agg #[.bool S, .int .i64 2, .int .u64 (4503599627370496 + (M : Int)), .int .i64 ((E : Int) - 1075)]) (by simp [results, Tryz.results29, go_sem]) rfl ⟨by simp, B2 _ _ _⟩
end Go.Proofs.YtjkifbkehochoaaGreatDoor

namespace Go.Proofs.YtjkifbkehochoaaGreatDoor
open Fl

/-- how two rows of digits stand, from a place on, so many places -/
def stI (a b : List Nat) : Nat → Nat → Int
  | 0, _ => 0
  | k + 1, i => if a.getD i 48 < b.getD i 48 then -1 else if b.getD i 48 < a.getD i 48 then 1 else stI a b k (i + 1)
def stF (a b : List Nat) : Int := stI a b (max a.length b.length) 0
theorem ten0 (k : Nat) : 0 < 10 ^ k := Nat.pow_pos (by decide)
/-- what counts of a number: eight hundred digits, and whether more is behind -/
def svN (x : Nat) : Nat := (10 * (x / 10 ^ (Lib.nDigits x - 800)) + (if x % 10 ^ (Lib.nDigits x - 800) = 0 then 0 else 1)) * 10 ^ (Lib.nDigits x - 800)
theorem nd_le {x k : Nat} (h : x < 10 ^ k) (hk : 0 < k) : Lib.nDigits x ≤ k := by
  rcases Nat.lt_or_ge k (Lib.nDigits x) with c | c
  · exfalso
    rcases Nat.eq_zero_or_pos x with h0 | h0
    · subst h0
      rw [Lib.nDigits_small (by decide)] at c; omega
    · have := Lib.nDigits_pos x
      have h2 := Lib.lt_pow_nDigits x
      have h3 : 10 ^ (Lib.nDigits x - 1) ≤ x := by
        rcases Nat.lt_or_ge x (10 ^ (Lib.nDigits x - 1)) with d | d
        · exfalso
          obtain ⟨m, hm⟩ : ∃ m, Lib.nDigits x = m + 1 := ⟨Lib.nDigits x - 1, by omega⟩
          rw [hm, Nat.add_sub_cancel] at d
          obtain ⟨q, hq1, hq2⟩ : ∃ q, 10 ^ q ≤ x ∧ x < 10 ^ (q + 1) := by
            clear h h2 c hm d this hk
            induction x using Nat.strongRecOn with
            | ind x ih =>
              by_cases hx : x < 10
              · exact ⟨0, by rw [Nat.pow_zero]; exact h0, by simpa using hx⟩
              · obtain ⟨q, a, b⟩ := ih (x / 10) (by omega) (by omega)
                exact ⟨q + 1, by rw [Nat.pow_succ]; omega, by rw [Nat.pow_succ]; omega⟩
          have h5 := Lib.nDigits_unique q x hq1 hq2
          have : q = m := by omega
          subst this
          omega
        · exact d
      have h4 := Nat.pow_le_pow_right (show 0 < 10 by decide) (show k ≤ Lib.nDigits x - 1 by omega)
      omega
  · exact c
theorem nd_low {x : Nat} (h0 : 0 < x) : 10 ^ (Lib.nDigits x - 1) ≤ x := by
  rcases Nat.lt_or_ge x (10 ^ (Lib.nDigits x - 1)) with d | d
  · exfalso
    have := Lib.nDigits_pos x
    rcases Nat.eq_zero_or_pos (Lib.nDigits x - 1) with c | c
    · rw [c, Nat.pow_zero] at d; omega
    · have := nd_le d c; omega
  · exact d
theorem nd_mono {x y : Nat} (h : x ≤ y) : Lib.nDigits x ≤ Lib.nDigits y := nd_le (Nat.lt_of_le_of_lt h (Lib.lt_pow_nDigits y)) (Lib.nDigits_pos y)
theorem sv_le (x : Nat) : svN x ≤ 10 * 10 ^ Lib.nDigits x := by
  have h2 := Lib.lt_pow_nDigits x
  unfold svN
  generalize Lib.nDigits x = L at *
  obtain ⟨g, hg⟩ : ∃ g, g = L - 800 := ⟨_, rfl⟩
  rw [← hg]
  have hp := ten0 g
  have e : 10 ^ L = 10 ^ (L - g) * 10 ^ g := by rw [← Nat.pow_add, show L - g + g = L by omega]
  have h3 : x / 10 ^ g < 10 ^ (L - g) := by rw [Nat.div_lt_iff_lt_mul hp, ← e]; exact h2
  rw [e, ← Nat.mul_assoc]
  refine Nat.mul_le_mul_right _ ?_
  split <;> omega
theorem sv_ge {x : Nat} (h0 : 0 < x) : 10 * 10 ^ (Lib.nDigits x - 1) ≤ svN x := by
  have h1 := nd_low h0
  have h2 := Lib.nDigits_pos x
  unfold svN
  generalize Lib.nDigits x = L at *
  obtain ⟨g, hg⟩ : ∃ g, g = L - 800 := ⟨_, rfl⟩
  rw [← hg]
  have e : 10 ^ (L - 1) = 10 ^ (L - 1 - g) * 10 ^ g := by rw [← Nat.pow_add, show L - 1 - g + g = L - 1 by omega]
  have h3 : 10 ^ (L - 1 - g) ≤ x / 10 ^ g := by rw [Nat.le_div_iff_mul_le (ten0 g), ← e]; exact h1
  rw [e, ← Nat.mul_assoc]
  refine Nat.mul_le_mul_right _ ?_
  split <;> omega
theorem sv_mono {x y : Nat} (h0 : 0 < x) (h : x ≤ y) : svN x ≤ svN y := by
  rcases Nat.lt_or_eq_of_le (nd_mono h) with c | c
  · refine Nat.le_trans (sv_le x) (Nat.le_trans ?_ (sv_ge (by omega : 0 < y)))
    refine Nat.mul_le_mul_left _ (Nat.pow_le_pow_right (by decide) (by omega))
  · unfold svN
    rw [c]
    generalize 10 ^ (Lib.nDigits y - 800) = G
    refine Nat.mul_le_mul_right _ ?_
    have h1 : x / G ≤ y / G := Nat.div_le_div_right h
    rcases Nat.lt_or_eq_of_le h1 with d | d
    · split <;> split <;> omega
    · have e1 := Nat.div_add_mod x G
      have e2 := Nat.div_add_mod y G
      rw [d] at e1 ⊢
      split <;> split <;> omega
theorem dval_app (l m : List Nat) : dval (l ++ m) = dval l * 10 ^ m.length + dval m := dval_more l m
theorem dval_lead : ∀ l : List Nat, dval l = dval (l.drop (lead l))
  | [] => rfl
  | x :: l => by
    rw [lead]
    by_cases h : x = 48
    · subst h
      rw [if_pos rfl, List.drop_succ_cons, ← dval_lead l]
      have := dval_app [48] l
      rw [show [48] ++ l = 48 :: l from rfl, show dval [48] = 0 from rfl, Nat.zero_mul, Nat.zero_add] at this
      exact this
    · rw [if_neg h, List.drop_zero]
theorem lead_drop (l : List Nat) : (l.drop (lead l)).length = l.length - lead l := List.length_drop ..
theorem dval_pos {l : List Nat} (hd : DG l) (h : lead l < l.length) : 10 ^ (l.length - lead l - 1) ≤ dval l ∧ dval l < 10 ^ (l.length - lead l) := by
  rw [dval_lead l]
  have hn := lead_not l h
  have e := List.drop_eq_getElem_cons h
  rw [List.getD, List.getElem?_eq_getElem h] at hn
  have hx : 48 ≤ l[lead l] := (hd _ (List.getElem_mem h)).1
  constructor
  · rw [e]
    have := dval_ge (x := l[lead l]) (r := l.drop (lead l + 1)) (by have : l[lead l] ≠ 48 := hn; omega)
    rw [List.length_drop] at this
    rw [show l.length - lead l - 1 = l.length - (lead l + 1) by omega]
    exact this
  · have := dval_lt (hd.drop (lead l)) (l.drop (lead l)).length (Nat.le_refl _)
    rw [List.take_length, lead_drop] at this
    exact this
theorem dval_nought {l : List Nat} (h : ¬ lead l < l.length) : dval l = 0 := by
  rw [dval_lead l, List.drop_eq_nil_of_le (by omega)]; rfl
theorem nd_lead {l : List Nat} (hd : DG l) (h : lead l < l.length) : Lib.nDigits (dval l) = l.length - lead l := by
  obtain ⟨h1, h2⟩ := dval_pos hd h
  have := Lib.nDigits_unique (l.length - lead l - 1) (dval l) h1 (by rw [show l.length - lead l - 1 + 1 = l.length - lead l by omega]; exact h2)
  omega
theorem te_last (l : List Nat) (f : Nat) : ∀ k, f < te l f k → l.getD (te l f k - 1) 0 ≠ 48
  | 0, h => by rw [te] at h; omega
  | k + 1, h => by
    rw [te] at h ⊢
    by_cases c : f < k + 1 ∧ l.getD k 0 = 48
    · rw [if_pos c] at h ⊢; exact te_last l f k h
    · rw [if_neg c] at h ⊢
      rw [Nat.add_sub_cancel]
      exact fun e => c ⟨h, e⟩
theorem strip_split {l : List Nat} : l.drop (lead l) = stripD l ++ List.replicate (l.length - te l (lead l) l.length) 48 := by
  have h := trim_rep l (lead l)
  have h2 := lead_le l
  have h3 := te_ge l (lead l) l.length h2
  have h4 := te_le l (lead l) l.length
  have e := congrArg (List.drop (lead l)) h
  rw [List.drop_append_of_le_length (by rw [List.length_take]; omega)] at e
  exact e
theorem snoc_last {l : List Nat} (hl : 0 < l.length) : l = l.take (l.length - 1) ++ [l.getD (l.length - 1) 0] := by
  have h : l.length - 1 < l.length := by omega
  rw [List.getD, List.getElem?_eq_getElem h]
  show l = l.take (l.length - 1) ++ [l[l.length - 1]]
  rw [List.take_append_getElem h, show l.length - 1 + 1 = l.length by omega, List.take_length]
/-- as what digits are read, by their number -/
theorem read_sv {l : List Nat} (hd : DG l) (h : lead l < l.length) {p : Int} (h1 : -400 ≤ p - lead l) (h2 : p - lead l ≤ 400) :
    readF l p = rungM (svN (dval l) * 10 ^ (p - l.length - 1).toNat * 2 ^ K) (10 ^ (-(p - l.length - 1)).toNat) := by
  have hne : stripD l ≠ [] := by
    obtain ⟨r, hr⟩ := strip_some h
    rw [hr]; exact List.cons_ne_nil _ _
  have hnd := nd_lead hd h
  have hlen := strip_len l
  have ht1 := te_le l (lead l) l.length
  have ht0 := te_ge l (lead l) l.length (lead_le l)
  have hds := hd.strip
  have hsp := strip_split (l := l)
  obtain ⟨z, hz⟩ : ∃ z, z = l.length - te l (lead l) l.length := ⟨_, rfl⟩
  rw [← hz] at hsp
  have hv : dval l = dval (stripD l) * 10 ^ z := by rw [dval_lead l, hsp, dval_rep]
  have hn : (stripD l).length + z = l.length - lead l := by omega
  have hpos : 0 < (stripD l).length := List.length_pos_iff.2 hne
  have hlast : dval (stripD l) % 10 ≠ 0 := by
    have hs := snoc_last hpos
    have hg : (stripD l).getD ((stripD l).length - 1) 0 ≠ 48 := by
      have := te_last l (lead l) l.length (by omega)
      have e : (stripD l).getD ((stripD l).length - 1) 0 = l.getD (te l (lead l) l.length - 1) 0 := by
        have e2 : (stripD l).length - 1 = te l (lead l) l.length - 1 - lead l := by omega
        rw [e2]
        unfold stripD
        rw [List.getD, List.getD, List.getElem?_drop, List.getElem?_take, if_pos (by omega), show lead l + (te l (lead l) l.length - 1 - lead l) = te l (lead l) l.length - 1 by omega]
      rw [e]; exact this
    have hdx : 48 ≤ (stripD l).getD ((stripD l).length - 1) 0 ∧ (stripD l).getD ((stripD l).length - 1) 0 ≤ 57 := by
      refine hd.strip _ ?_
      rw [List.getD, List.getElem?_eq_getElem (by omega)]
      exact List.getElem_mem _
    rw [hs, dval_snoc]
    omega
  unfold readF
  rw [if_neg (fun e => e.elim hne (by omega)), if_neg (by omega), if_neg (by omega)]
  unfold cutD
  by_cases hc : 800 < (stripD l).length
  · rw [if_pos hc]
    generalize stripD l = t at *
    obtain ⟨c, hcc⟩ : ∃ c, t.length = 800 + c := ⟨t.length - 800, by omega⟩
    have e1 : dval t = dval (t.take 800) * 10 ^ c + dval (t.drop 800) := by
      conv => lhs; rw [← List.take_append_drop 800 t]
      rw [dval_app, List.length_drop, hcc, show 800 + c - 800 = c by omega]
    have e2 : dval (t.drop 800) < 10 ^ c := by
      have := dval_lt (DG.drop hds 800) (t.drop 800).length (Nat.le_refl _)
      rw [List.take_length, List.length_drop, hcc, show 800 + c - 800 = c by omega] at this
      exact this
    have hdd : dval (t.take 800 ++ [49]) = 10 * dval (t.take 800) + 1 := by rw [dval_snoc]; omega
    have hll : (t.take 800 ++ [49]).length = 801 := by rw [List.length_append, List.length_take]; simp; omega
    have hg : Lib.nDigits (dval l) - 800 = c + z := by rw [hnd]; omega
    have q1 : dval l / 10 ^ (c + z) = dval (t.take 800) := by
      rw [hv, Nat.pow_add, Nat.mul_div_mul_right _ _ (ten0 z), e1, Nat.mul_comm, Nat.mul_add_div (ten0 c), Nat.div_eq_of_lt e2, Nat.add_zero]
    have q2 : dval l % 10 ^ (c + z) ≠ 0 := by
      rw [hv, Nat.pow_add, Nat.mul_mod_mul_right]
      refine Nat.mul_ne_zero ?_ (Nat.ne_of_gt (ten0 z))
      intro hm
      obtain ⟨j, rfl⟩ : ∃ j, c = j + 1 := ⟨c - 1, by omega⟩
      have : 10 ∣ dval t := Nat.dvd_trans (show 10 ∣ 10 ^ (j + 1) from ⟨10 ^ j, by rw [Nat.pow_succ, Nat.mul_comm]⟩) (Nat.dvd_of_mod_eq_zero hm)
      exact hlast (Nat.mod_eq_zero_of_dvd this)
    have hsv : svN (dval l) = dval (t.take 800 ++ [49]) * 10 ^ (c + z) := by
      unfold svN
      rw [hg, q1, if_neg q2, hdd]
    have h := ratio_shift (dval (t.take 800 ++ [49])) (c + z) (p - lead l - ((801 : Nat) : Int))
    rw [hsv]
    unfold numF
    rw [hll, show p - (l.length : Int) - 1 = p - lead l - ((801 : Nat) : Int) - ((c + z : Nat) : Int) by omega]
    exact h
  · rw [if_neg hc]
    generalize stripD l = t at *
    obtain ⟨g, hg⟩ : ∃ g, g = Lib.nDigits (dval l) - 800 := ⟨_, rfl⟩
    have hgz : g ≤ z := by rw [hg, hnd]; omega
    have q2 : dval l % 10 ^ g = 0 := by
      rw [hv, show z = (z - g) + g by omega, Nat.pow_add, ← Nat.mul_assoc, Nat.mul_mod_left]
    have hsv : svN (dval l) = dval t * 10 ^ (z + 1) := by
      unfold svN
      rw [← hg, if_pos q2, Nat.add_zero, Nat.mul_assoc, Nat.div_mul_cancel (Nat.dvd_of_mod_eq_zero q2), hv, Nat.pow_succ]
      rw [Nat.mul_comm 10, Nat.mul_assoc]
    have h := ratio_shift (dval t) (z + 1) (p - lead l - (t.length : Int))
    rw [hsv]
    unfold numF
    rw [show p - (l.length : Int) - 1 = p - lead l - (t.length : Int) - ((z + 1 : Nat) : Int) by omega]
    exact h
theorem read_nought {l : List Nat} (h : ¬ lead l < l.length) (p : Int) : readF l p = 0 := by
  have := lead_le l
  unfold readF
  rw [if_pos (.inl (strip_nil (by omega)))]
theorem readF_INF (l : List Nat) (p : Int) : readF l p ≤ INF := by
  unfold readF
  split
  · exact Nat.zero_le INF
  · split
    · exact Nat.le_refl INF
    · split
      · exact Nat.zero_le INF
      · unfold numF; exact Nat.min_le_right _ _
/-- of two rows of as many digits that which is not less is not read as less -/
theorem read_mono {a b : List Nat} (ha : DG a) (hb : DG b) (hl : a.length = b.length) (h : dval a ≤ dval b) (p : Int) : readF a p ≤ readF b p := by
  by_cases h1 : lead a < a.length
  · have pa := dval_pos ha h1
    have h2 : lead b < b.length := by
      rcases Nat.lt_or_ge (lead b) b.length with c | c
      · exact c
      · have := dval_nought (l := b) (by omega)
        have := ten0 (a.length - lead a - 1)
        omega
    have pb := dval_pos hb h2
    have hll : lead b ≤ lead a := by
      rcases Nat.lt_or_ge (lead a) (lead b) with c | c
      · exfalso
        have := Nat.pow_le_pow_right (show 0 < 10 by decide) (show b.length - lead b ≤ a.length - lead a - 1 by omega)
        omega
      · exact c
    have sa : stripD a ≠ [] := by
      obtain ⟨r, hr⟩ := strip_some h1
      rw [hr]; exact List.cons_ne_nil _ _
    have sb : stripD b ≠ [] := by
      obtain ⟨r, hr⟩ := strip_some h2
      rw [hr]; exact List.cons_ne_nil _ _
    by_cases c0 : p < -1099511627776
    · have : readF a p = 0 := by unfold readF; rw [if_pos (.inr c0)]
      omega
    · by_cases c1 : p - lead a < -400
      · have : readF a p = 0 := by unfold readF; rw [if_neg (fun e => e.elim sa c0), if_neg (by omega), if_pos c1]
        omega
      · by_cases c2 : 400 < p - lead b
        · have : readF b p = INF := by unfold readF; rw [if_neg (fun e => e.elim sb c0), if_pos c2]
          rw [this]; exact readF_INF a p
        · rw [read_sv ha h1 (by omega) (by omega), read_sv hb h2 (by omega) (by omega), hl]
          refine rungM_mono (ten0 _) (ten0 _) (Nat.mul_le_mul_right _ (Nat.mul_le_mul_right _ (Nat.mul_le_mul_right _ (sv_mono ?_ h))))
          have := ten0 (a.length - lead a - 1)
          omega
  · rw [read_nought h1]; exact Nat.zero_le _
end Go.Proofs.YtjkifbkehochoaaGreatDoor

namespace Go.Proofs.YtjkifbkehochoaaGreatDoor.Fl

theorem mant_step (a i : Nat) : 2 * (a / 2 ^ (i + 1)) + a / 2 ^ i % 2 = a / 2 ^ i := by
  rw [Nat.pow_succ, ← Nat.div_div_eq_div_mul]; omega
theorem low_succ (a i : Nat) : a % 2 ^ (i + 1) = 2 ^ i * (a / 2 ^ i % 2) + a % 2 ^ i := by
  rw [Nat.pow_succ, Nat.mod_mul]; omega
theorem low_step (a i : Nat) : a % 2 ^ (i + 1) = 0 ↔ (a % 2 ^ i = 0 ∧ a / 2 ^ i % 2 = 0) := by
  rw [low_succ]
  have h := Nat.two_pow_pos i
  rcases Nat.mod_two_eq_zero_or_one (a / 2 ^ i) with e | e <;> rw [e] <;> omega
theorem half_rhe (a l : Nat) : rhe a (2 ^ (l + 1)) = a / 2 ^ (l + 1) + (if a / 2 ^ l % 2 = 1 ∧ (a / 2 ^ (l + 1) % 2 = 1 ∨ a % 2 ^ l ≠ 0) then 1 else 0) := by
  unfold rhe
  have e := low_succ a l
  have h := Nat.two_pow_pos l
  have h2 := Nat.mod_lt a h
  rw [e]
  have e2 : 2 ^ (l + 1) = 2 * 2 ^ l := by rw [Nat.pow_succ]; omega
  congr 1
  rcases Nat.mod_two_eq_zero_or_one (a / 2 ^ l) with q | q
  · rw [q, if_neg (by omega), if_neg (by omega)]
  · rw [q]
    by_cases c : a / 2 ^ (l + 1) % 2 = 1 ∨ a % 2 ^ l ≠ 0
    · rw [if_pos (by omega), if_pos ⟨rfl, c⟩]
    · rw [if_neg (by omega), if_neg (by omega)]
/-- what is rounded once is rounded -/
theorem place_round (a : Nat) : rungOf 52 (rhe a (2 ^ (a.log2 - 52)) * 2 ^ (a.log2 - 52)) 0 = rungOf 52 a 0 := by
  rw [← val_round, rungOf_val]
end Go.Proofs.YtjkifbkehochoaaGreatDoor.Fl
