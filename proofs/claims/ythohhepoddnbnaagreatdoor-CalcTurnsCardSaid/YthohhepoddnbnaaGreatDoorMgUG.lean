/- Rows of seventy words by value: one bit. galleyref02: Plus, Rest, Units. galleyref02: Rest. An Acc: Value. An Acc: Value, less than nought. An Acc: Join. Plain, and a list of floats in memory. Exact. Same, Two. A word and its place; the square root; an amount (turned from the seat Ytelalledjbeenaa). galleyref02: Units. Whole numbers as rows of words of 64 bits: plain laws. -/
import Derived.Test.YthohhepoddnbnaaGreatDoorMgUB
import Derived.Deep.DeepCutAuto
import Derived.Deep.CutBlock
import Derived.Test.YthohhepoddnbnaaGreatDoorMgAccF
import Derived.Test.YthohhepoddnbnaaGreatDoorAlive
import Derived.Test.YthohhepoddnbnaaGreatDoorArith
import Derived.Test.YthohhepoddnbnaaGreatDoorMgBase
import Derived.Test.YthohhepoddnbnaaGreatDoorAccE
import Derived.Deep.MidRow
import Derived.Laws.Externs
namespace Go.Proofs.YthohhepoddnbnaaGreatDoor
open Go.RowKit Fl

theorem bit_dg (n i : Nat) : dg n (i / 32) / 2 ^ (i % 32) % 2 = n / 2 ^ i % 2 := by
  have e : n / 2 ^ i = n / 2 ^ (32 * (i / 32)) / 2 ^ (i % 32) := by
    rw [Nat.div_div_eq_div_mul, ← Nat.pow_add]; congr 2; omega
  rw [e]
  unfold dg
  generalize n / 2 ^ (32 * (i / 32)) = q
  have hr : i % 32 < 32 := Nat.mod_lt _ (by decide)
  generalize i % 32 = r at *
  have e2 : (4294967296 : Nat) = 2 ^ r * 2 ^ (31 - r) * 2 := by
    rw [Nat.mul_assoc, ← Nat.pow_succ, ← Nat.pow_add]
    rw [show r + (31 - r).succ = 32 by omega]
  rw [e2, Nat.mul_assoc, Nat.mod_mul_right_div_self, Nat.mul_comm (2 ^ (31 - r)) 2, Nat.mod_mul_right_mod]
set_option maxRecDepth 100000 in
set_option maxHeartbeats 1000000 in
theorem c185 (n : Nat) (i : Nat) (w : World) (hi : i < 2240) : Calls Tryz.prog 88 #[.agg (UL n).toArray, .int .i64 i] w fun e w' => e = .returned (.int .u64 ((n / 2 ^ i % 2 : Nat) : Int)) ∧ Below w.heap.size w w' := by
  have c0 := (urow_new w n 80 (i / 32) (by omega)).1
  rw [Nat.zero_add] at c0
  have B1 : Hid (Below w.heap.size w (w.alloc (.cells (UL n).toArray 80))) := Lib.hid ((Below.refl _ _).alloc (Nat.le_refl _) _)
  have hb := bit_dg n i
  have hu := dg_lt n (i / 32)
  have HB := Lib.hid (And.intro hb hu)
  have hq : (i : Int) / 32 < 70 := by omega
  have hii : (i : Int) < 2240 := by omega
  clear hb hu
  go_enter Tryz.func88, Tryz.ntmps88
  go_wp2
  go_ret
  refine ⟨ret_int ?_, B1.out⟩
  rw [cast_div, show (1 : Int) = ((1 : Nat) : Int) from rfl, u32_and_nat _ _ (Nat.lt_of_le_of_lt (Nat.div_le_self _ _) HB.out.2) (by decide), Nat.and_one_is_mod, HB.out.1, IntKind.wrap_u64]
  have : n / 2 ^ i % 2 < 2 := Nat.mod_lt _ (by decide)
  omega
/-- nought with a sign -/
theorem c170 (neg : Bool) (w : World) : Calls Tryz.prog 116 #[.bool neg] w fun e w' => e = .returned (.float .f64 (if neg then 9223372036854775808 else 0)) ∧ w = w' := by
  have hx := fun w => x153 9223372036854775808 w
  cases neg
  · go_enter Tryz.func116, Tryz.ntmps116
    go_wp2
    go_ret
    exact ⟨rfl, rfl⟩
  · go_enter Tryz.func116, Tryz.ntmps116
    go_wp2
    go_ret
    exact ⟨rfl, rfl⟩
end Go.Proofs.YthohhepoddnbnaaGreatDoor

namespace Go.Proofs.YthohhepoddnbnaaGreatDoor
open Go.RowKit Fl

theorem dg_up (b i : Nat) : b % 2 ^ (32 * (i + 1)) = b % 2 ^ (32 * i) + dg b i * 2 ^ (32 * i) := by
  have e : 2 ^ (32 * (i + 1)) = 2 ^ (32 * i) * 4294967296 := by
    rw [show 32 * (i + 1) = 32 * i + 32 by omega, Nat.pow_add]
  have h := @Nat.mod_mul (2 ^ (32 * i)) 4294967296 b
  rw [e, h]
  exact congrArg (b % 2 ^ (32 * i) + ·) (Nat.mul_comm _ _)
structure PW (w wx : World) (n b : Nat) : Prop where
  a : URow wx w.heap.size 0 (dg n)
  b : URow wx (w.heap.size + 1) 0 (dg b)
  c : URow wx (w.heap.size + 1 + 1) 0 (fun _ => 0)
  l : Below w.heap.size w wx
  z : w.heap.size + 1 + 1 < wx.heap.size
theorem URow.only2 {w w' : World} {b c o : Nat} {f : Nat → Nat} (h : URow w b o f) (k : Only c w w') (hb : b < w.heap.size) (hc : b ≠ c) : URow w' b o f := fun j hj => by
  have e := k.block b hb hc
  have h1 := h j hj
  refine ⟨?_, ?_⟩
  · have : w'.cell? ⟨b, o + j, none⟩ = w.cell? ⟨b, o + j, none⟩ := by simp only [World.cell?, e]
    rw [this]; exact h1.1
  · have : w'.frozen? ⟨b, o + j, none⟩ = w.frozen? ⟨b, o + j, none⟩ := by simp only [World.frozen?, e]
    rw [this]; exact h1.2
theorem PW.next {w wx wy : World} {n n' b lo hi : Nat} (h : PW w wx n b) (hr : URow wy w.heap.size 0 (dg n')) (k : OnlyC w.heap.size lo hi wx wy) : PW w wy n' b := by
  have hz := h.z
  exact ⟨hr, h.b.only2 k.only (by omega) (by omega), h.c.only2 k.only (by omega) (by omega), k.only.below (Nat.le_refl _) (by omega) h.l, Nat.lt_of_lt_of_le hz k.only.size⟩
set_option maxRecDepth 100000 in
set_option maxHeartbeats 2000000 in
theorem lPlus (a b : Nat) (w : World) (hb : b < 2 ^ (32 * RC)) : Calls Tryz.prog 53 #[.agg (UL a).toArray, .agg (UL b).toArray] w fun e w' => e = .returned (.agg (UL (a + b)).toArray) ∧ Below w.heap.size w w' := by
  have HB := Lib.hid hb
  clear hb
  go_enter Tryz.func53, Tryz.ntmps53
  go_upto_region 1 with fail
  refine wp_gen' (fun wx => Hid (PW w wx a b)) ?_ ?_
  · have e1 : (w.alloc (.cells (UL a).toArray 80)).heap.size = w.heap.size + 1 := by simp
    have e2 : ((w.alloc (.cells (UL a).toArray 80)).alloc (.cells (UL b).toArray 80)).heap.size = w.heap.size + 1 + 1 := by simp
    have r0 := urow_new w a 80
    have r1 := urow_new (w.alloc (.cells (UL a).toArray 80)) b 80
    have r2 := urow_zero ((w.alloc (.cells (UL a).toArray 80)).alloc (.cells (UL b).toArray 80))
    have al := fun (W : World) (o : Obj) => (Below.refl W.heap.size W).alloc (Nat.le_refl _) o
    rw [e1] at r1
    rw [e2] at r2
    exact Lib.hid ⟨(r0.below (al _ _) (by simp)).below (al _ _) (by simp <;> omega), r1.below (al _ _) (by simp), r2, (((Below.refl _ _).alloc (Nat.le_refl _) _).alloc (by simp) _).alloc (by simp <;> omega) _, by simp⟩
  intro wc hW
  go_wp2_with fail
  go_loopw [5] (fun ii wx => ∃ i : Nat, ii = .int .i64 (i : Nat) ∧ Hid (i ≤ 70) ∧ Hid (PW w wx (a + b % 2 ^ (32 * i)) b)) (fun ii _ => 70 - (intOf ii).toNat)
  case atStart => exact ⟨0, rfl, Lib.hid (by omega), by rw [Nat.mul_zero, Nat.pow_zero, Nat.mod_one, Nat.add_zero]; exact hW⟩
  case round =>
    obtain ⟨i, rfl, hi, hI⟩ := hrel
    clear hW
    by_cases hlt : i < 70
    · have hki : (i : Int) < 70 := by omega
      have hi0 : (0 : Int) ≤ (i : Int) := by omega
      have HLT := Lib.hid hlt
      have c1 := (hI.out.b i hlt).1
      rw [Nat.zero_add] at c1
      have d2 := dg_lt b i
      have n2 : (dg b i : Int) < 4294967296 := by omega
      have e32 : Hid ((32 : Int) * (i : Int) = ((32 * i : Nat) : Int)) := Lib.hid (by omega)
      have ew : Hid (IntKind.u64.wrap (dg b i : Int) = (dg b i : Int)) := Lib.hid (by rw [IntKind.wrap_u64]; omega)
      have C := Lib.hid (c166 w.heap.size 0 (a + b % 2 ^ (32 * i)) (dg b i) (32 * i) wr (by unfold U; omega) (by omega) hI.out.a (by have := hI.out.z; omega))
      have HD := Lib.hid (dg_up b i)
      clear hlt d2
      go_wp2_with (go_at_call 89; (try rw [ew.out]); (try rw [e32.out]); refine C.out.mono ?_; rintro e w2 ⟨rfl, hr, ho⟩; have R := Lib.hid (And.intro hr ho); clear hr ho C)
      go_roundw
      case rel =>
        refine ⟨i + 1, by go_num, Lib.hid (by have := HLT.out; omega), Lib.hid ?_⟩
        have h := hI.out
        have r1 := R.out.1
        rw [Nat.add_assoc, ← HD.out] at r1
        exact h.next r1 R.out.2
      case measure => have := HLT.out; simp [intOf]; omega
    · have hki : ¬ (i : Int) < 70 := by omega
      have h70 : i = 70 := by have := hi.out; omega
      subst h70
      have e7 : 32 * 70 = 32 * RC := rfl
      have RR := Lib.hid (show wr.rangeAt w.heap.size 0 (UL (a + b)) by
        have h := hI.out.a
        rw [e7, Nat.mod_eq_of_lt HB.out] at h
        exact h.range)
      have T0 := Lib.hid (hI.out.c.there (n := (UL (a + b)).toArray.size) (by rw [List.size_toArray, UL_len]))
      have T1 := Lib.hid (hI.out.c.there (n := (UL (a + b)).length) (UL_len _))
      have E1 := Lib.hid (show (Tryz.prog.info? 80).map (·.size) = some (UL (a + b)).length by rw [UL_len]; exact size108)
      have E2 := Lib.hid (show (Tryz.prog.info? 80).map (·.size) = some (UL (a + b)).toArray.size by rw [List.size_toArray, UL_len]; exact size108)
      have BB := Lib.hid (below_setCells hI.out.l (show w.heap.size ≤ w.heap.size + 1 + 1 by omega) 0 (UL (a + b)))
      clear hlt hi hI e7
      go_wp2_with (first
        | (refine wpList_load_mid rfl 80 (.tmp 2) rfl w.heap.size 0 rfl (UL (a + b)) _ RR.out Tryz.underlying80 rfl E1.out ?_)
        | (refine wpList_store_mid rfl 80 (.tmp 4) (.tmp 17) rfl (w.heap.size + 1 + 1) 0 (UL (a + b)).toArray rfl rfl T0.out E2.out (UL_one _) ?_))
      refine bodyPost_ret (v := .agg (UL (a + b)).toArray) (results_cell1 Tryz.results53 rfl (run_loadVar_mid (P := Tryz.prog) _ _ 0 80 (UL (a + b)) _ (World.rangeAt_setCells_same _ _ _ _ T1.out) Tryz.underlying80 rfl E1.out)) rfl ⟨rfl, BB.out⟩
end Go.Proofs.YthohhepoddnbnaaGreatDoor

namespace Go.Proofs.YthohhepoddnbnaaGreatDoor
open Go.RowKit Fl

theorem rem_step (a b i : Nat) (hb : 0 < b) : a / 2 ^ i % b = (if b ≤ 2 * (a / 2 ^ (i + 1) % b) + a / 2 ^ i % 2 then 2 * (a / 2 ^ (i + 1) % b) + a / 2 ^ i % 2 - b else 2 * (a / 2 ^ (i + 1) % b) + a / 2 ^ i % 2) := by
  have e : a / 2 ^ (i + 1) = a / 2 ^ i / 2 := by rw [Nat.div_div_eq_div_mul, ← Nat.pow_succ]
  rw [e]
  generalize a / 2 ^ i = x
  have h1 := Nat.mod_lt (x / 2) hb
  have h2 : x = 2 * (x / 2) + x % 2 := by omega
  have h3 := Nat.div_add_mod (x / 2) b
  have h4 : x % 2 < 2 := Nat.mod_lt _ (by decide)
  have h5 : x % b = (2 * (x / 2 % b) + x % 2) % b := by
    conv => lhs; rw [h2, ← h3]
    rw [Nat.mul_add, Nat.add_assoc, Nat.mul_left_comm, Nat.mul_add_mod]
  rw [h5]
  split
  · rename_i h
    rw [Nat.mod_eq_sub_mod h, Nat.mod_eq_of_lt (by omega)]
  · rename_i h
    exact Nat.mod_eq_of_lt (by omega)
theorem wpLG {P : Program} {ops : Array Oper} {rest : List Oper} {Q : Exit → Act → World → Prop} {a : Act} {w : World} (R : World → Prop) (h : R w) (k : ∀ wx, R wx → wpList P ops Q rest a wx) : wpList P ops Q rest a w := k w h
theorem lt_twice {n b t m X : Nat} (h : 2 * b < X) (hn : n < b) (ht : t < 2) (hm : m = 2 * n + t) : m < X := by omega
theorem lt_half {b X : Nat} (h : 2 * b < X) : b < X := by omega
structure RW (w wx : World) (a b n : Nat) : Prop where
  a : URow wx w.heap.size 0 (dg a)
  b : URow wx (w.heap.size + 1) 0 (dg b)
  c : URow wx (w.heap.size + 1 + 1) 0 (fun _ => 0)
  r : URow wx (w.heap.size + 1 + 1 + 1) 0 (dg n)
  l : Below w.heap.size w wx
  z : w.heap.size + 1 + 1 + 1 < wx.heap.size
theorem urow_laid {w : World} {b n m : Nat} (h : URow w b 0 (dg n)) : URow (w.setCells b 0 (UL m)) b 0 (dg m) := fun j hj => by
  have T := h.there (n := (UL m).length) (UL_len _)
  have R := World.rangeAt_setCells_same w b 0 (UL m) T
  refine ⟨?_, ?_⟩
  · exact R j _ (UL_get m j hj)
  · rw [World.frozen?_setCells]; exact (h j hj).2
theorem RW.only {w wx wy : World} {a b n n' : Nat} (h : RW w wx a b n) (hr : URow wy (w.heap.size + 1 + 1 + 1) 0 (dg n')) (k : Only (w.heap.size + 1 + 1 + 1) wx wy) : RW w wy a b n' := by
  have hz := h.z
  exact ⟨h.a.only2 k (by omega) (by omega), h.b.only2 k (by omega) (by omega), h.c.only2 k (by omega) (by omega), hr, k.below (by omega) (by omega) h.l, Nat.lt_of_lt_of_le hz k.size⟩
theorem RW.below {w wx wy : World} {a b n : Nat} (h : RW w wx a b n) (k : Below wx.heap.size wx wy) : RW w wy a b n := h.only (h.r.below k h.z) (.of_below k)
theorem RW.lay {w wx : World} {a b n : Nat} (h : RW w wx a b n) (m : Nat) : RW w (wx.setCells (w.heap.size + 1 + 1 + 1) 0 (UL m)) a b m := h.only (urow_laid h.r) ((Only.refl _ _).setCells 0 _)
theorem cmp_ge_iff (n b : Nat) : (0 ≤ cmpN n b) ↔ b ≤ n := by
  unfold cmpN
  split
  · constructor <;> intro <;> omega
  · split
    · constructor <;> intro h <;> omega
    · constructor <;> intro <;> omega
set_option maxRecDepth 100000 in
set_option maxHeartbeats 1000000 in
theorem lRest (a b : Nat) (w : World) (hb0 : 0 < b) (hb : 2 * b < 2 ^ (32 * RC)) (ha : a < 2 ^ (32 * RC)) : Calls Tryz.prog 50 #[.agg (UL a).toArray, .agg (UL b).toArray] w fun e w' => e = .returned (.agg (UL (a % b)).toArray) ∧ Below w.heap.size w w' := by
  have HB := Lib.hid (And.intro hb0 (And.intro hb ha))
  have E1 := Lib.hid (fun n => show (Tryz.prog.info? 80).map (·.size) = some (UL n).length by rw [UL_len]; exact size108)
  have E2 := Lib.hid (fun n => show (Tryz.prog.info? 80).map (·.size) = some (UL n).toArray.size by rw [List.size_toArray, UL_len]; exact size108)
  clear hb0 hb ha
  go_enter Tryz.func50, Tryz.ntmps50
  go_upto_region 2 with fail
  refine wp_gen' (fun wx => Hid (RW w wx a b 0)) ?_ ?_
  · have e1 : (w.alloc (.cells (UL a).toArray 80)).heap.size = w.heap.size + 1 := by simp
    have e2 : ((w.alloc (.cells (UL a).toArray 80)).alloc (.cells (UL b).toArray 80)).heap.size = w.heap.size + 1 + 1 := by simp
    have e3 : (((w.alloc (.cells (UL a).toArray 80)).alloc (.cells (UL b).toArray 80)).alloc (.cells (Array.replicate 70 (.int .u32 0)) 80)).heap.size = w.heap.size + 1 + 1 + 1 := by simp
    have r0 := urow_new w a 80
    have r1 := urow_new (w.alloc (.cells (UL a).toArray 80)) b 80
    have r2 := urow_zero ((w.alloc (.cells (UL a).toArray 80)).alloc (.cells (UL b).toArray 80))
    have r3 := urow_zero (((w.alloc (.cells (UL a).toArray 80)).alloc (.cells (UL b).toArray 80)).alloc (.cells (Array.replicate 70 (.int .u32 0)) 80))
    have al := fun (W : World) (o : Obj) => (Below.refl W.heap.size W).alloc (Nat.le_refl _) o
    rw [e1] at r1
    rw [e2] at r2
    rw [e3] at r3
    exact Lib.hid ⟨((r0.below (al _ _) (by simp)).below (al _ _) (by simp <;> omega)).below (al _ _) (by simp <;> omega), (r1.below (al _ _) (by simp)).below (al _ _) (by simp <;> omega), r2.below (al _ _) (by simp), r3.congr (fun j _ => by unfold dg; rw [Nat.zero_div]), ((((Below.refl _ _).alloc (Nat.le_refl _) _).alloc (by simp) _).alloc (by simp <;> omega) _).alloc (by simp <;> omega) _, by simp⟩
  intro wc hW
  go_wp2_with fail
  go_loopw [6] (fun ii wx => ∃ k : Nat, ii = .int .i64 ((k : Int) - 1) ∧ Hid (k ≤ 2240) ∧ Hid (RW w wx a b (a / 2 ^ k % b))) (fun ii _ => (intOf ii + 1).toNat)
  case atStart => exact ⟨32 * RC, rfl, Lib.hid (by rw [RC_eq]; omega), by rw [Nat.div_eq_of_lt HB.out.2.2, Nat.zero_mod]; exact hW⟩
  case round =>
    obtain ⟨k, rfl, hk, hI⟩ := hrel
    clear hW
    rcases k with _ | i
    · have ez : ((0 : Nat) : Int) - 1 = -1 := rfl
      rw [ez]
      have RR := Lib.hid (show wr.rangeAt (w.heap.size + 1 + 1 + 1) 0 (UL (a % b)) by have := hI.out.r; rw [Nat.pow_zero, Nat.div_one] at this; exact this.range)
      have T0 := Lib.hid (hI.out.c.there (n := (UL (a % b)).toArray.size) (by rw [List.size_toArray, UL_len]))
      have T1 := Lib.hid (hI.out.c.there (n := (UL (a % b)).length) (UL_len _))
      have BB := Lib.hid (below_setCells hI.out.l (show w.heap.size ≤ w.heap.size + 1 + 1 by omega) 0 (UL (a % b)))
      clear hk hI
      go_wp2_with (first
        | (refine wpList_load_mid rfl 80 (.tmp 5) rfl (w.heap.size + 1 + 1 + 1) 0 rfl (UL (a % b)) _ RR.out Tryz.underlying80 rfl (E1.out _) ?_)
        | (refine wpList_store_mid rfl 80 (.tmp 4) (.tmp 26) rfl (w.heap.size + 1 + 1) 0 (UL (a % b)).toArray rfl rfl T0.out (E2.out _) (UL_one _) ?_))
      refine bodyPost_ret (v := .agg (UL (a % b)).toArray) (results_cell1 Tryz.results50 rfl (run_loadVar_mid (P := Tryz.prog) _ _ 0 80 (UL (a % b)) _ (World.rangeAt_setCells_same _ _ _ _ T1.out) Tryz.underlying80 rfl (E1.out _))) rfl ⟨rfl, BB.out⟩
    · have ei : ((i + 1 : Nat) : Int) - 1 = (i : Int) := by omega
      rw [ei]
      clear ei
      have hi2 : (i : Int) ≤ 2239 := by have := hk.out; omega
      have hi0 : (0 : Int) ≤ (i : Int) := by omega
      have HS := Lib.hid (rem_step a b i HB.out.1)
      have HN := Lib.hid (Nat.mod_lt (a / 2 ^ (i + 1)) HB.out.1)
      generalize a / 2 ^ (i + 1) % b = n at *
      have C53 := Lib.hid (fun w => lPlus n n w (Nat.lt_trans HN.out (lt_half HB.out.2.1)))
      have C88 := Lib.hid (fun w => c185 a i w (by have := hk.out; omega))
      obtain ⟨t, ht⟩ : ∃ t, t = a / 2 ^ i % 2 := ⟨_, rfl⟩
      have HT := Lib.hid (show t < 2 by rw [ht]; exact Nat.mod_lt _ (by decide))
      rw [← ht] at HS C88
      clear ht
      go_upto_region 6 with (first
        | (go_at_call 53; refine (C53.out _).mono ?_; rintro e w2 ⟨rfl, hb2⟩; replace hI := Lib.hid (hI.out.below hb2); clear hb2 C53)
        | (refine wpList_load_mid rfl 80 (.tmp 5) rfl (w.heap.size + 1 + 1 + 1) 0 rfl (UL n) _ hI.out.r.range Tryz.underlying80 rfl (E1.out _) ?_)
        | (refine wpList_store_mid rfl 80 (.tmp 5) (.tmp 13) rfl (w.heap.size + 1 + 1 + 1) 0 (UL (n + n)).toArray rfl rfl (hI.out.r.there (by rw [List.size_toArray, UL_len])) (E2.out _) (UL_one _) ?_))
      refine wp_gen' (fun wx => Hid (RW w wx a b (n + n))) (Lib.hid (hI.out.lay (n + n))) ?_
      intro w3 hJ
      clear hI w2
      go_upto_if 17 with (first
        | (go_at_call 88; refine (C88.out _).mono ?_; rintro e w4 ⟨rfl, hb4⟩; replace hJ := Lib.hid (hJ.out.below hb4); clear hb4 C88)
        | (refine wpList_load_mid rfl 80 (.tmp 2) rfl w.heap.size 0 rfl (UL a) _ hJ.out.a.range Tryz.underlying80 rfl (E1.out _) ?_))
      obtain ⟨m, hm⟩ : ∃ m, m = 2 * n + t := ⟨_, rfl⟩
      have HM := Lib.hid hm
      rw [← hm] at HS
      clear hm
      go_cut [6] from 7 to 25 (fun u wx => u = .int .i64 (i : Int) ∧ Hid (RW w wx a b m))
      case first =>
        have ht2 : t = 0 ∨ t = 1 := by have := HT.out; omega
        rcases ht2 with rfl | rfl
        · have J2 : Hid (RW w w4 a b m) := Lib.hid (by rw [HM.out, Nat.add_zero, Nat.two_mul]; exact hJ.out)
          go_wp2_with fail
          go_meet
          exact ⟨rfl, J2⟩
        · have C := Lib.hid (show Calls Tryz.prog 89 #[.pointer (some ⟨w.heap.size + 1 + 1 + 1, 0, none⟩), .int .u64 1, .int .i64 0] w4 _ from c166 (w.heap.size + 1 + 1 + 1) 0 (n + n) 1 0 w4 (by unfold U; decide) (by decide) hJ.out.r hJ.out.z)
          go_wp2_with (go_at_call 89; refine C.out.mono ?_; rintro e w5 ⟨rfl, hr, ho⟩; have J2 : Hid (RW w w5 a b m) := Lib.hid (hJ.out.only (by rw [HM.out, Nat.two_mul]; simpa using hr) ho.only); clear hr ho C)
          go_meet
          exact ⟨rfl, J2⟩
      case rest =>
        obtain ⟨rfl, hK⟩ := hcut
        clear hJ
        have C51 := Lib.hid (fun w => c167 m b w (lt_twice HB.out.2.1 HN.out HT.out HM.out) (lt_half HB.out.2.1))
        by_cases hge : b ≤ m
        · have hc : 0 ≤ cmpN m b := (cmp_ge_iff m b).2 hge
          have C52 := Lib.hid (fun w => c169 m b w hge)
          rw [if_pos hge] at HS
          clear hge
          generalize cmpN m b = cm at *
          go_upto_region 9 with (first
            | (go_at_call 51; refine (C51.out _).mono ?_; rintro e w6 ⟨rfl, hb6⟩; replace hK := Lib.hid (hK.out.below hb6); clear hb6 C51)
            | (refine wpList_load_mid rfl 80 (.tmp 5) rfl (w.heap.size + 1 + 1 + 1) 0 rfl (UL m) _ hK.out.r.range Tryz.underlying80 rfl (E1.out _) ?_)
            | (refine wpList_load_mid rfl 80 (.tmp 3) rfl (w.heap.size + 1) 0 rfl (UL b) _ hK.out.b.range Tryz.underlying80 rfl (E1.out _) ?_))
          go_wp2_with (first
            | (go_at_call 52; refine (C52.out _).mono ?_; rintro e w7 ⟨rfl, hb7⟩; replace hK := Lib.hid (hK.out.below hb7); clear hb7 C52)
            | (refine wpList_load_mid rfl 80 (.tmp 5) rfl (w.heap.size + 1 + 1 + 1) 0 rfl (UL m) _ hK.out.r.range Tryz.underlying80 rfl (E1.out _) ?_)
            | (refine wpList_load_mid rfl 80 (.tmp 3) rfl (w.heap.size + 1) 0 rfl (UL b) _ hK.out.b.range Tryz.underlying80 rfl (E1.out _) ?_)
            | (refine wpList_store_mid rfl 80 (.tmp 5) (.tmp 25) rfl (w.heap.size + 1 + 1 + 1) 0 (UL (m - b)).toArray rfl rfl (hK.out.r.there (by rw [List.size_toArray, UL_len])) (E2.out _) (UL_one _) ?_; refine wpLG (fun wx => Hid (RW w wx a b (m - b))) (Lib.hid (hK.out.lay (m - b))) ?_; intro w8 h8; clear hK))
          go_roundw
          case rel => exact ⟨i, rfl, Lib.hid (by have := hk.out; omega), by rw [HS.out]; exact h8⟩
          case measure => simp [intOf]
        · have hc : ¬ 0 ≤ cmpN m b := fun h => hge ((cmp_ge_iff m b).1 h)
          rw [if_neg hge] at HS
          clear hge
          generalize cmpN m b = cm at *
          go_wp2_with (first
            | (go_at_call 51; refine (C51.out _).mono ?_; rintro e w6 ⟨rfl, hb6⟩; replace hK := Lib.hid (hK.out.below hb6); clear hb6 C51)
            | (refine wpList_load_mid rfl 80 (.tmp 5) rfl (w.heap.size + 1 + 1 + 1) 0 rfl (UL m) _ hK.out.r.range Tryz.underlying80 rfl (E1.out _) ?_)
            | (refine wpList_load_mid rfl 80 (.tmp 3) rfl (w.heap.size + 1) 0 rfl (UL b) _ hK.out.b.range Tryz.underlying80 rfl (E1.out _) ?_))
          go_roundw
          case rel => exact ⟨i, rfl, Lib.hid (by have := hk.out; omega), Lib.hid (by rw [HS.out]; exact hK.out)⟩
          case measure => simp [intOf]
end Go.Proofs.YthohhepoddnbnaaGreatDoor

namespace Go.Proofs.YthohhepoddnbnaaGreatDoor
open Go.RowKit Fl

/-- the place of what an Acc tells -/
def pV (s : AS) : Int :=
  if s.nan || (s.pos && s.neg) then 9223372036854775807 else if s.pos then 9218868437227405312 else if s.neg then -9218868437227405313
  else if s.z < 0 then -(rnd s.z.natAbs : Int) - 1 else if rnd s.z.natAbs = 0 ∧ s.any = false then -1 else (rnd s.z.natAbs : Int)
def B2559 : Int := 2 ^ 2559
theorem sign_word (z : Int) (h1 : -B2559 ≤ z) (h2 : z < B2559) : (wd z 39 / 9223372036854775808 == 1) = decide (z < 0) := by
  unfold wd
  rw [show 64 * 39 = 2496 by rfl]
  have hP : B2559 = 9223372036854775808 * (2 : Int) ^ 2496 := by unfold B2559; rw [show (9223372036854775808 : Int) = 2 ^ 63 by rfl, ← Int.pow_add]
  have hp : (0 : Int) < 2 ^ 2496 := Int.pow_pos (by decide)
  rw [hP] at h1 h2
  generalize (2 : Int) ^ 2496 = p at *
  have hq2 : z / p < 9223372036854775808 := Int.ediv_lt_of_lt_mul hp h2
  have hq1 : -9223372036854775808 ≤ z / p := Int.le_ediv_of_mul_le hp (by omega)
  have hs : z / p < 0 ↔ z < 0 := ⟨fun h => by have := fun h0 : 0 ≤ z => Int.ediv_nonneg h0 (Int.le_of_lt hp); omega, fun h => Int.ediv_lt_of_lt_mul hp (by omega)⟩
  generalize z / p = q at *
  by_cases h0 : z < 0
  · have := hs.2 h0
    rw [decide_eq_true h0]; simp; omega
  · have : ¬ q < 0 := fun h => h0 (hs.1 h)
    rw [decide_eq_false h0]; simp; omega
theorem B2559_cap (n : Nat) (h : (n : Int) ≤ B2559) : n < 2 ^ (64 * CAP) := by
  have h2 : B2559 = ((2 ^ 2559 : Nat) : Int) := by unfold B2559; exact (Int.natCast_pow 2 2559).symm
  have h3 : n ≤ 2 ^ 2559 := by rw [h2] at h; exact Int.ofNat_le.1 h
  have h4 : ∀ k m : Nat, k < m → 2 ^ k < 2 ^ m := fun k m h => Nat.pow_lt_pow_right (by decide) h
  exact Nat.lt_of_le_of_lt h3 (h4 2559 (64 * CAP) (by rw [CAP_eq]; decide))
theorem wd_nn (z : Int) (i : Nat) : 0 ≤ wd z i := by unfold wd; exact Int.emod_nonneg _ (by decide)

theorem AS.boolsN (s : AS) (h : (s.nan || (s.pos && s.neg)) = true) : pV s = 9223372036854775807 := by unfold pV; rw [if_pos h]
theorem pl_small (r : Nat) (h : r ≤ INF) : pl r = (r : Int) := by
  have := pl_word false r h
  rw [if_neg (by decide)] at this
  exact this
theorem U_small {r : Nat} (h : r ≤ INF) : U r := by unfold U; unfold INF at h; omega
theorem eq_zero_false (r : Nat) (h : r ≤ INF) (h0 : r ≠ 0) : (FloatKind.f64.format.order r 0 == some Ordering.eq) = false := by
  rw [f_eq r 0 (U_small h) (by unfold U; decide), pl_small r h, pl_small 0 (by unfold INF; omega)]
  unfold feqP zk
  rw [if_neg (by omega), if_neg (by omega), decide_eq_false (show ¬ ((r : Int) = ((0 : Nat) : Int)) by omega), Bool.and_false]
theorem RetF_small (r : Nat) (h : r ≤ INF) : RetF (r : Int) (.returned (.float .f64 r)) := ⟨r, rfl, U_small h, pl_small r h⟩
theorem rnd_le_INF (n : Nat) : rnd n ≤ INF := by unfold rnd; exact Nat.min_le_right _ _
end Go.Proofs.YthohhepoddnbnaaGreatDoor

namespace Go.Proofs.YthohhepoddnbnaaGreatDoor
open Go.RowKit Fl

end Go.Proofs.YthohhepoddnbnaaGreatDoor

namespace Go.Proofs.YthohhepoddnbnaaGreatDoor
open Go.RowKit Fl

def joinS (s t : AS) : AS := ⟨s.z + t.z, s.nan || t.nan, s.pos || t.pos, s.neg || t.neg, s.any || t.any⟩
end Go.Proofs.YthohhepoddnbnaaGreatDoor

namespace Go.Proofs.YthohhepoddnbnaaGreatDoor
open Go.RowKit Fl

/-- a list of floats lies in block b from o on -/
structure FL (w : World) (b o : Nat) (l : List Nat) : Prop where
  cell : ∀ j x : Nat, l[j]? = some x → w.cell? ⟨b, o + j, none⟩ = some (.float .f64 x)
  u : ∀ j x : Nat, l[j]? = some x → U x
  lt : b < w.heap.size
theorem FL.below {w w' : World} {b o : Nat} {l : List Nat} (h : FL w b o l) (hb : Below w.heap.size w w') : FL w' b o l :=
  ⟨fun j x hj => (hb.cell (p := ⟨b, o + j, none⟩) h.lt).trans (h.cell j x hj), h.u, Nat.lt_of_lt_of_le h.lt hb.size⟩
/-- the place of the plain sum -/
def plainP (l : List Nat) : Int := l.foldl (fun p x => opP .add p (pl x)) (-1)
theorem plainP_take (l : List Nat) (k x : Nat) (h : l[k]? = some x) : plainP (l.take (k + 1)) = opP .add (plainP (l.take k)) (pl x) := by
  unfold plainP
  rw [List.take_add_one, h, List.foldl_append]; rfl
end Go.Proofs.YthohhepoddnbnaaGreatDoor

namespace Go.Proofs.YthohhepoddnbnaaGreatDoor
open Go.RowKit Fl

def accS (l : List Nat) : AS := l.foldl addS AS.zero
theorem accS_take (l : List Nat) (k x : Nat) (h : l[k]? = some x) : accS (l.take (k + 1)) = addS (accS (l.take k)) x := by
  unfold accS
  rw [List.take_add_one, h, List.foldl_append]; rfl
def B2098 : Int := 2 ^ 2098
theorem pow2_le (k m : Nat) (h : k ≤ m) : (2 : Nat) ^ k ≤ 2 ^ m := Nat.pow_le_pow_right (by decide) h
theorem mul_pow_le (a m k j : Nat) (h1 : a ≤ 2 ^ m) (h2 : k ≤ j) : a * 2 ^ k ≤ 2 ^ (m + j) := by
  rw [Nat.pow_add]; exact Nat.mul_le_mul h1 (pow2_le _ _ h2)
theorem cast_le (a m k j t : Nat) (h1 : a ≤ 2 ^ m) (h2 : k ≤ j) (ht : m + j = t) : ((a * 2 ^ k : Nat) : Int) ≤ (2 : Int) ^ t := by
  subst ht
  have := Int.ofNat_le.2 (mul_pow_le a m k j h1 h2)
  rw [Int.natCast_pow] at this
  exact this
theorem ipow_le (k m t : Nat) (h : k + m ≤ t) : (2 : Int) ^ k * 2 ^ m ≤ 2 ^ t := by
  rw [← Int.pow_add]
  have h2 := Int.ofNat_le.2 (pow2_le (k + m) t h)
  rw [Int.natCast_pow, Int.natCast_pow] at h2
  exact h2
theorem un_bound (x : Nat) (h : fin x = true) : -B2098 ≤ un x ∧ un x ≤ B2098 := by
  have hv : ((val 52 (rg x) : Nat) : Int) ≤ B2098 := by
    rw [val_mm]
    have h1 := mM_lt x
    exact cast_le (mM x) 53 (mE x) 2045 2098 (by omega) (mE_le x h) rfl
  have h0 : (0 : Int) ≤ B2098 := Int.le_trans (Int.natCast_nonneg _) hv
  unfold un
  split <;> omega
theorem acc_bound (l : List Nat) : ∀ s : AS, s.z - l.length * B2098 ≤ (l.foldl addS s).z ∧ (l.foldl addS s).z ≤ s.z + l.length * B2098 := by
  induction l with
  | nil => intro s; simp
  | cons x r ih =>
    intro s
    have h0 : (0 : Int) ≤ B2098 := by unfold B2098; exact Int.le_of_lt (Int.pow_pos (by decide))
    have h := ih (addS s x)
    have hz : s.z - B2098 ≤ (addS s x).z ∧ (addS s x).z ≤ s.z + B2098 := by
      unfold addS
      by_cases hf : fin x = true
      · have := un_bound x hf
        simp only [hf, if_true]; omega
      · simp only [hf, if_false, Bool.false_eq_true]; omega
    rw [List.foldl_cons, List.length_cons, Int.natCast_add, Int.add_mul]
    omega
theorem acc_small (l : List Nat) (hl : l.length < 4611686018427387904) : -B2559 < (accS l).z ∧ (accS l).z < B2559 := by
  have h := acc_bound l AS.zero
  have h0 : (0 : Int) < B2098 := by unfold B2098; exact Int.pow_pos (by decide)
  have hb : (4611686018427387904 : Int) * B2098 ≤ B2559 := by
    rw [show (4611686018427387904 : Int) = 2 ^ 62 by rfl]
    exact ipow_le 62 2098 2559 (by decide)
  have hm : (l.length : Int) * B2098 < 4611686018427387904 * B2098 := Int.mul_lt_mul_of_pos_right (by omega) h0
  unfold accS
  have : AS.zero.z = 0 := rfl
  omega

end Go.Proofs.YthohhepoddnbnaaGreatDoor

namespace Go.Proofs.YthohhepoddnbnaaGreatDoor
open Go.RowKit Fl

set_option maxRecDepth 100000 in
theorem c24 (x y : Nat) (w : World) (hx : U x) (hy : U y) : Calls Tryz.prog 56 #[.float .f64 x, .float .f64 y] w fun e w' => e = .returned (.bool (pl x == pl y)) ∧ w = w' := by
  have h := same_bits hx hy
  have e1 := neq_self x hx
  have e2 := neq_self y hy
  have e3 : ((x : Int) == (y : Int)) = (x == y) := by rw [Bool.eq_iff_iff]; simp; omega
  rw [← h]
  clear h
  cases h1 : (x == y) <;> cases h2 : isN x <;> cases h3 : isN y
  all_goals
    rw [h2] at e1
    rw [h3] at e2
    rw [h1] at e3
    clear h1 h2 h3
    go_enter Tryz.func56, Tryz.ntmps56
    go_wp2
    go_ret
    exact ⟨rfl, rfl⟩

/-- what is lost in a sum -/
def lostS (x y s : Nat) : AS := addS (addS (addS AS.zero x) y) (ng s)
theorem accS3 (x y z : Nat) : accS [x, y, z] = addS (addS (addS AS.zero x) y) z := rfl
/-- the sum is a number's: what is lost -/
def twoP (x y s : Nat) : Int := pV (lostS x y s)
end Go.Proofs.YthohhepoddnbnaaGreatDoor

namespace Go.Proofs.YthohhepoddnbnaaGreatDoor
open Go.RowKit Fl

/-- a word of a place -/
def RV (r : Nat) (p : Int) : Prop := U r ∧ pl r = p
theorem RV.self {x : Nat} (h : U x) : RV x (pl x) := ⟨h, rfl⟩
theorem RV.fop {x y : Nat} {P Q : Int} (op : BinOp) (hx : RV x P) (hy : RV y Q) (w : World) : RV (fop op x y w) (opP op P Q) := ⟨U_fop _ _ _ _, by rw [pl_fop op x y w hx.1 hy.1, hx.2, hy.2]⟩
theorem RV.lt {x y : Nat} {P Q : Int} (hx : RV x P) (hy : RV y Q) : (FloatKind.f64.format.order x y == some Ordering.lt) = fltP P Q := by rw [f_lt x y hx.1 hy.1, hx.2, hy.2]
theorem RV.le {x y : Nat} {P Q : Int} (hx : RV x P) (hy : RV y Q) : (FloatKind.f64.format.order x y == some Ordering.lt || FloatKind.f64.format.order x y == some Ordering.eq) = fleP P Q := by rw [f_le x y hx.1 hy.1, hx.2, hy.2]
theorem RV.eq_ {x y : Nat} {P Q : Int} (hx : RV x P) (hy : RV y Q) : (FloatKind.f64.format.order x y == some Ordering.eq) = feqP P Q := by rw [f_eq x y hx.1 hy.1, hx.2, hy.2]
/-- one float is told, by its place -/
def RetR (p : Int) (e : Ending) : Prop := ∃ r, e = .returned (.float .f64 r) ∧ RV r p
theorem there_new (w : World) (cs : Array Value) (t : TypeId) (n : Nat) (h : cs.size = n) : (w.alloc (.cells cs t)).there w.heap.size 0 n := fun j hj => by
  rw [Nat.zero_add, World.cell?_alloc_new w cs t j, Array.getElem?_eq_getElem (by omega)]
  exact ⟨rfl, by simp [go_sem]⟩
theorem range_new (w : World) (cs : List Value) (t : TypeId) : (w.alloc (.cells cs.toArray t)).rangeAt w.heap.size 0 cs := fun j v hj => by
  rw [Nat.zero_add, World.cell?_alloc_new w cs.toArray t j, List.getElem?_toArray]; exact hj
theorem range_below {w w' : World} {b o B : Nat} {cs : List Value} (h : w.rangeAt b o cs) (hb : Below B w w') (hB : b < B) : w'.rangeAt b o cs := fun j v hj => (hb.cell (p := ⟨b, o + j, none⟩) hB).trans (h j v hj)
theorem there_below {w w' : World} {b o n B : Nat} (h : w.there b o n) (hb : Below B w w') (hB : b < B) : w'.there b o n := fun j hj => by
  rw [hb.cell (p := ⟨b, o + j, none⟩) hB, hb.frozen (p := ⟨b, o + j, none⟩) hB]; exact h j hj
theorem b_rg (x : Nat) (h : U x) : bits .and .u64 (x : Int) 9223372036854775807 = ((rg x : Nat) : Int) := by
  rw [show (9223372036854775807 : Int) = ((9223372036854775807 : Nat) : Int) from rfl, u64_and_nat _ _ h.lt (by omega)]
  congr 1
  exact Nat.and_two_pow_sub_one_eq_mod x 63
set_option maxRecDepth 100000 in
/-- a number without its sign -/
theorem c171 (x : Nat) (w : World) (h : U x) : Calls Tryz.prog 17 #[.float .f64 x] w fun e w' => e = .returned (.float .f64 (rg x)) ∧ w = w' := by
  have E := b_rg x h
  have h1 := fun w => x153 (rg x) w
  clear h
  go_enter Tryz.func17, Tryz.ntmps17
  go_wp2_with (first | (go_at_call 63; refine (x128 _ _).mono ?_; rintro e w' ⟨rfl, rfl⟩) | (go_at_call 62; fail))
  go_ret
  exact ⟨rfl, rfl⟩
/-- the place of a square root -/
def sqrtP (p : Int) : Int := match FloatKind.f64.format.sqrt (atW p) with | some r => pl r | none => 9223372036854775807
theorem sqrt_nan (x : Nat) (hx : U x) (hn : isN x = true) : FloatKind.f64.format.sqrt x = none := by
  show Ieee.double.sqrt x = none
  unfold Ieee.Format.sqrt
  rw [read_nan x hx.lt hn]; rfl
theorem U_sqrt (x r : Nat) (h : FloatKind.f64.format.sqrt x = some r) : U r := by
  have h : Ieee.double.sqrt x = some r := h
  unfold Ieee.Format.sqrt at h
  rw [Option.map_eq_some_iff] at h
  obtain ⟨d, _, rfl⟩ := h
  exact Ieee.Format.write_lt _ _
def onRoot (x : Nat) (o : Option Nat) : Sem Value := match o with | some r => pure (.float .f64 r) | none => do pure (.float .f64 (← choose (.nanBits .f64 x x)))
theorem onRoot_eq (x : Nat) : Extern.MathSqrt.sqrt #[.float .f64 x] = onRoot x (FloatKind.f64.format.sqrt x) := rfl
theorem x183 (x : Nat) (w : World) (hx : U x) : ∃ r n, (callFunc 91 #[.float .f64 x]).run Tryz.prog w = .ok (.value (.float .f64 r)) (w.drewN n) ∧ RV r (sqrtP (pl x)) := by
  rw [run_callFunc_extern (P := Tryz.prog) (f := 91) (fn := Tryz.f91) (e := Extern.MathSqrt.sqrt) (by kernel_rfl) (by kernel_rfl) (by kernel_rfl) (by kernel_rfl) (by kernel_rfl)]
  rw [onRoot_eq]
  unfold sqrtP
  by_cases hn : isN x = true
  · have h1 := sqrt_nan x hx hn
    have h2 := sqrt_nan _ U_atN isN_atW
    rw [pl_nan hn]
    unfold NP
    rw [h1, h2]
    exact ⟨(Question.nanBits .f64 x x).cut (w.tape w.drawn (Question.nanBits .f64 x x)), 1, rfl, (nanBits_cut _ _ _).1, pl_nan (nanBits_cut _ _ _).2⟩
  · have hn := Bool.eq_false_iff.2 hn
    rw [atW_pl x hx hn]
    cases h : FloatKind.f64.format.sqrt x with
    | some r =>
      exact ⟨r, 0, rfl, U_sqrt x r h, rfl⟩
    | none =>
      exact ⟨(Question.nanBits .f64 x x).cut (w.tape w.drawn (Question.nanBits .f64 x x)), 1, rfl, (nanBits_cut _ _ _).1, pl_nan (nanBits_cut _ _ _).2⟩
set_option maxRecDepth 100000 in
theorem k155 {x : Nat} {P : Int} (hx : RV x P) (w : World) : Calls Tryz.prog 59 #[.float .f64 x] w fun e w' => RetR (sqrtP P) e ∧ ∃ n, w' = w.drewN n := by
  obtain ⟨r, n, h, hr⟩ := x183 x w hx.1
  have HR : Hid (RV r (sqrtP P)) := Lib.hid (by rw [← hx.2]; exact hr)
  clear hr hx
  go_enter Tryz.func59, Tryz.ntmps59
  go_wp2
  go_ret
  exact ⟨⟨r, rfl, HR.out⟩, n, rfl⟩
end Go.Proofs.YthohhepoddnbnaaGreatDoor

namespace Go.Proofs.YthohhepoddnbnaaGreatDoor
open Go.RowKit Fl

theorem zero80 : Tryz.zeroCells80 = Array.replicate 70 (Value.int .u32 0) := by kernel_rfl
theorem zero130 : Tryz.zeroCells130 = (List.replicate 140 (Value.int .u32 0) ++ List.replicate 5 (Value.int .i64 0)).toArray := by kernel_rfl
theorem dg_zero' (j : Nat) : dg 0 j = 0 := by unfold dg; rw [Nat.zero_div]
theorem sum_new (w : World) : SumAt (w.alloc (.cells Tryz.zeroCells130 130)) w.heap.size 0 RS.zero := by
  have hu : ∀ j, j < 140 → (w.alloc (.cells Tryz.zeroCells130 130)).cell? ⟨w.heap.size, j, Option.none⟩ = some (.int .u32 0) := fun j hj => by
    rw [World.cell?_alloc_new w _ 130 j, zero130, List.getElem?_toArray, List.getElem?_append_left (by rw [List.length_replicate]; exact hj), List.getElem?_replicate, if_pos hj]
  have hi : ∀ j, j < 5 → (w.alloc (.cells Tryz.zeroCells130 130)).cell? ⟨w.heap.size, 140 + j, Option.none⟩ = some (.int .i64 0) := fun j hj => by
    rw [World.cell?_alloc_new w _ 130 (140 + j), zero130, List.getElem?_toArray, List.getElem?_append_right (by rw [List.length_replicate]; omega), List.length_replicate, List.getElem?_replicate, if_pos (by omega)]
  have hf : ∀ j, (w.alloc (.cells Tryz.zeroCells130 130)).frozen? ⟨w.heap.size, j, Option.none⟩ = false := fun j => by simp [go_sem]
  refine ⟨fun j hj => ⟨?_, hf _⟩, fun j hj => ⟨?_, hf _⟩, ⟨?_, hf _⟩, ⟨?_, hf _⟩, ⟨?_, hf _⟩, ⟨?_, hf _⟩, ⟨?_, hf _⟩⟩
  · rw [show RS.zero.up = 0 from rfl, dg_zero', hu _ (by omega)]; rfl
  · rw [show RS.zero.down = 0 from rfl, dg_zero', hu _ (by omega)]; rfl
  · exact hi 0 (by omega)
  · exact hi 1 (by omega)
  · exact hi 2 (by omega)
  · exact hi 3 (by omega)
  · exact hi 4 (by omega)
theorem up_one (x : Nat) (hf : rg x < 9218868437227405312) : (addR RS.zero (rg x)).up = Fl.val 52 (rg x) := by
  have h1 : fin (rg x) = true := by unfold fin; rw [rg_rg]; exact decide_eq_true hf
  unfold addR
  show 0 + (if fin (rg x) = true ∧ sg (rg x) = false then Fl.val 52 (rg (rg x)) else 0) = _
  rw [if_pos ⟨h1, sg_rg x⟩, rg_rg, Nat.zero_add]
structure UW (w wx : World) (s : RS) : Prop where
  c : URow wx w.heap.size 0 (fun _ => 0)
  s : SumAt wx (w.heap.size + 1) 0 s
  l : Below w.heap.size w wx
  z : w.heap.size + 1 < wx.heap.size
set_option maxRecDepth 100000 in
set_option maxHeartbeats 1000000 in
theorem lUnits (x : Nat) (w : World) (hx : U x) (hf : rg x < 9218868437227405312) : Calls Tryz.prog 48 #[.float .f64 x] w fun e w' => e = .returned (.agg (UL (Fl.val 52 (rg x))).toArray) ∧ Below w.heap.size w w' := by
  have C1 := Lib.hid (fun w => c171 x w hx)
  clear hx
  go_enter Tryz.func48, Tryz.ntmps48
  go_upto_region 2 with fail
  refine wp_gen' (fun wx => Hid (UW w wx RS.zero)) ?_ ?_
  · have e1 : (w.alloc (.cells Tryz.zeroCells80 80)).heap.size = w.heap.size + 1 := by simp
    have r0 : URow (w.alloc (.cells Tryz.zeroCells80 80)) w.heap.size 0 (fun _ => 0) := by rw [zero80]; exact urow_zero w
    have r1 := sum_new (w.alloc (.cells Tryz.zeroCells80 80))
    rw [e1] at r1
    exact Lib.hid ⟨r0.below ((Below.refl _ _).alloc (Nat.le_refl _) _) (by simp), r1, ((Below.refl _ _).alloc (Nat.le_refl _) _).alloc (by simp) _, by simp⟩
  intro wc hW
  have C2 := Lib.hid (c113 (w.heap.size + 1) 0 RS.zero (rg x) wc (U_rg x) hW.out.s hW.out.z (by decide))
  have HU := Lib.hid (up_one x hf)
  go_upto_region 3 with (first
    | (go_at_call 17; refine (C1.out _).mono ?_; rintro e w' ⟨rfl, rfl⟩)
    | (go_at_call 87; refine C2.out.mono ?_; rintro e w2 ⟨rfl, hs, ho⟩; have J : Hid (UW w w2 (addR RS.zero (rg x))) := Lib.hid (by have h := hW.out; have hz := h.z; exact ⟨h.c.only2 ho.only (by omega) (by omega), hs, ho.only.below (by omega) (by omega) h.l, Nat.lt_of_lt_of_le hz ho.only.size⟩); clear hs ho C2 hW))
  have RR := Lib.hid (show w2.rangeAt (w.heap.size + 1) 0 (UL (Fl.val 52 (rg x))) by have := J.out.s.up; rw [HU.out] at this; exact this.range)
  clear hf HU C1
  generalize hN : Fl.val 52 (rg x) = N at *
  have HN := Lib.hid hN
  clear hN
  have T0 := Lib.hid (J.out.c.there (n := (UL N).toArray.size) (by rw [List.size_toArray, UL_len]))
  have T1 := Lib.hid (J.out.c.there (n := (UL N).length) (UL_len _))
  have E1 := Lib.hid (show (Tryz.prog.info? 80).map (·.size) = some (UL N).length by rw [UL_len]; exact size108)
  have E2 := Lib.hid (show (Tryz.prog.info? 80).map (·.size) = some (UL N).toArray.size by rw [List.size_toArray, UL_len]; exact size108)
  have BB := Lib.hid (below_setCells J.out.l (Nat.le_refl _) 0 (UL N))
  clear J
  go_wp2_with (first
    | (refine wpList_load_mid rfl 80 (.tmp 7) rfl (w.heap.size + 1) 0 rfl (UL N) _ RR.out Tryz.underlying80 rfl E1.out ?_)
    | (refine wpList_store_mid rfl 80 (.tmp 2) (.tmp 8) rfl w.heap.size 0 (UL N).toArray rfl rfl T0.out E2.out (UL_one _) ?_))
  refine bodyPost_ret (v := .agg (UL N).toArray) (results_cell1 Tryz.results48 rfl (run_loadVar_mid (P := Tryz.prog) _ _ 0 80 (UL N) _ (World.rangeAt_setCells_same _ _ _ _ T1.out) Tryz.underlying80 rfl E1.out)) rfl ⟨by rw [HN.out], BB.out⟩
end Go.Proofs.YthohhepoddnbnaaGreatDoor

namespace Go.Proofs.YthohhepoddnbnaaGreatDoor

def BB : Nat := 18446744073709551616
theorem BB_pos : 0 < BB := by decide
/-- the number of a row -/
def val : List Nat → Nat
  | [] => 0
  | x :: l => x + BB * val l
/-- all are words -/
def W64 (l : List Nat) : Prop := ∀ x ∈ l, x < BB
theorem val_append (a b : List Nat) : val (a ++ b) = val a + BB ^ a.length * val b := by
  induction a with
  | nil => simp [val]
  | cons x a ih =>
    rw [List.cons_append, val, val, ih, List.length_cons, Nat.pow_succ, Nat.mul_add, Nat.add_assoc, ← Nat.mul_assoc, Nat.mul_comm BB (BB ^ a.length)]
theorem val_lt {l : List Nat} (h : W64 l) : val l < BB ^ l.length := by
  induction l with
  | nil => simp [val]
  | cons x l ih =>
    have h1 := h x (List.mem_cons_self ..)
    have h2 := ih fun y hy => h y (List.mem_cons_of_mem _ hy)
    rw [val, List.length_cons, Nat.pow_succ, Nat.mul_comm (BB ^ l.length)]
    have : BB * (val l + 1) ≤ BB * BB ^ l.length := Nat.mul_le_mul_left _ h2
    rw [Nat.mul_add, Nat.mul_one] at this
    omega
theorem val_take_succ {l : List Nat} {k : Nat} (h : k < l.length) : val (l.take (k + 1)) = val (l.take k) + BB ^ k * l.getD k 0 := by
  rw [List.take_add_one, List.getElem?_eq_getElem h, val_append, List.length_take, Nat.min_eq_left (by omega)]
  simp [val, List.getD, List.getElem?_eq_getElem h]
theorem val_replicate (n : Nat) : val (List.replicate n 0) = 0 := by
  induction n with
  | zero => rfl
  | succ n ih => rw [List.replicate_succ, val, ih, Nat.mul_zero]
theorem W64.take {l : List Nat} (h : W64 l) (k : Nat) : W64 (l.take k) := fun x hx => h x (List.mem_of_mem_take hx)
theorem W64.drop {l : List Nat} (h : W64 l) (k : Nat) : W64 (l.drop k) := fun x hx => h x (List.mem_of_mem_drop hx)
theorem W64.append {a b : List Nat} (h : W64 a) (k : W64 b) : W64 (a ++ b) := fun x hx => by
  rcases List.mem_append.1 hx with h1 | h1
  · exact h x h1
  · exact k x h1
theorem W64.getD {l : List Nat} (h : W64 l) (k : Nat) : l.getD k 0 < BB := by
  rw [List.getD]
  cases hk : l[k]? with
  | none => exact BB_pos
  | some x => exact h x (List.mem_of_getElem? hk)
theorem W64.replicate (n : Nat) : W64 (List.replicate n 0) := fun x hx => by rw [(List.mem_replicate.1 hx).2]; exact BB_pos
/-- nothing at the end is nought -/
def Can (l : List Nat) : Prop := l.length = 0 ∨ l.getD (l.length - 1) 0 ≠ 0
/-- how many words are left when noughts at the end are taken away, of the first k -/
def tn (l : List Nat) : Nat → Nat
  | 0 => 0
  | k + 1 => if l.getD k 0 = 0 then tn l k else k + 1
theorem tn_le (l : List Nat) : ∀ k, tn l k ≤ k
  | 0 => Nat.le_refl _
  | k + 1 => by
    unfold tn
    split
    · have := tn_le l k; omega
    · exact Nat.le_refl _
theorem tn_val {l : List Nat} : ∀ k, k ≤ l.length → val (l.take (tn l k)) = val (l.take k)
  | 0, _ => rfl
  | k + 1, h => by
    unfold tn
    split
    · rename_i h0
      rw [tn_val k (by omega), val_take_succ (by omega), h0, Nat.mul_zero, Nat.add_zero]
    · rfl
theorem tn_can {l : List Nat} : ∀ k, k ≤ l.length → Can (l.take (tn l k))
  | 0, _ => .inl (by simp [tn])
  | k + 1, h => by
    unfold tn
    split
    · exact tn_can k (by omega)
    · rename_i h0
      refine .inr ?_
      have e : (l.take (k + 1)).length = k + 1 := by rw [List.length_take]; omega
      rw [e, Nat.add_sub_cancel]
      rw [List.getD, List.getElem?_take, if_pos (by omega)]
      exact h0
theorem val_zero {l : List Nat} (h : Can l) (hv : val l = 0) : l = [] := by
  rcases h with h | h
  · exact List.eq_nil_of_length_eq_zero h
  · exfalso
    rcases Nat.eq_zero_or_pos l.length with h0 | h0
    · rw [List.eq_nil_of_length_eq_zero h0] at h; exact h rfl
    · have := val_take_succ (l := l) (k := l.length - 1) (by omega)
      rw [show l.length - 1 + 1 = l.length by omega, List.take_length, hv] at this
      have h1 : BB ^ (l.length - 1) * l.getD (l.length - 1) 0 = 0 := by omega
      rcases Nat.mul_eq_zero.1 h1 with h2 | h2
      · have := Nat.pow_pos (n := l.length - 1) BB_pos
        omega
      · exact h h2
theorem val_ge {l : List Nat} (h : Can l) (hl : 0 < l.length) : BB ^ (l.length - 1) ≤ val l := by
  rcases h with h | h
  · omega
  · have := val_take_succ (l := l) (k := l.length - 1) (by omega)
    rw [show l.length - 1 + 1 = l.length by omega, List.take_length] at this
    have h1 : BB ^ (l.length - 1) * 1 ≤ BB ^ (l.length - 1) * l.getD (l.length - 1) 0 := Nat.mul_le_mul_left _ (by omega)
    omega
theorem len_lt {a b : List Nat} (ha : W64 a) (hb : Can b) (h : a.length < b.length) : val a < val b := by
  have h1 := val_lt ha
  have h2 := val_ge hb (by omega)
  have h3 : BB ^ a.length ≤ BB ^ (b.length - 1) := Nat.pow_le_pow_right BB_pos (by omega)
  omega
/-- carried on: each step gives a word and what is carried -/
def crw (f : Nat → Nat → Nat × Nat) (c0 : Nat) : Nat → List Nat × Nat
  | 0 => ([], c0)
  | k + 1 => ((crw f c0 k).1 ++ [(f k (crw f c0 k).2).1], (f k (crw f c0 k).2).2)
theorem cr_len (f : Nat → Nat → Nat × Nat) (c0 : Nat) : ∀ k, (crw f c0 k).1.length = k
  | 0 => rfl
  | k + 1 => by rw [crw, List.length_append, cr_len f c0 k]; rfl
def sumN (t : Nat → Nat) : Nat → Nat
  | 0 => 0
  | k + 1 => sumN t k + BB ^ k * t k
theorem cr_val {f : Nat → Nat → Nat × Nat} {c0 : Nat} {t : Nat → Nat} {n : Nat} (h : ∀ k, k < n → (f k (crw f c0 k).2).1 + BB * (f k (crw f c0 k).2).2 = t k + (crw f c0 k).2) : ∀ k, k ≤ n → val (crw f c0 k).1 + BB ^ k * (crw f c0 k).2 = sumN t k + c0
  | 0, _ => by simp [crw, val, sumN]
  | k + 1, hk => by
    have ih := cr_val h k (by omega)
    have hs := h k (by omega)
    rw [crw, sumN]
    simp only
    rw [val_append, cr_len]
    simp only [val, Nat.mul_zero, Nat.add_zero]
    rw [Nat.pow_succ, Nat.mul_assoc, Nat.add_assoc, ← Nat.mul_add, hs, Nat.mul_add]
    omega
theorem sumN_val {l : List Nat} : ∀ k, k ≤ l.length → sumN (fun i => l.getD i 0) k = val (l.take k)
  | 0, _ => rfl
  | k + 1, h => by rw [sumN, sumN_val k (by omega), val_take_succ (by omega)]
theorem sumN_mul (t : Nat → Nat) (m : Nat) : ∀ k, sumN (fun i => t i * m) k = sumN t k * m
  | 0 => by simp [sumN]
  | k + 1 => by rw [sumN, sumN, sumN_mul t m k, Nat.add_mul, Nat.mul_assoc]
theorem sumN_add (t u : Nat → Nat) : ∀ k, sumN (fun i => t i + u i) k = sumN t k + sumN u k
  | 0 => rfl
  | k + 1 => by rw [sumN, sumN, sumN, sumN_add t u k, Nat.mul_add]; omega
theorem sumN_pad {l : List Nat} : ∀ n, l.length ≤ n → sumN (fun i => l.getD i 0) n = val l
  | n, h => by
    induction n with
    | zero => rw [List.eq_nil_of_length_eq_zero (show l.length = 0 by omega)]; rfl
    | succ n ih =>
      by_cases hn : l.length = n + 1
      · rw [sumN_val _ (by omega), ← hn, List.take_length]
      · rw [sumN, ih (by omega)]
        have : l.getD n 0 = 0 := by rw [List.getD, List.getElem?_eq_none (by omega)]; rfl
        rw [this, Nat.mul_zero, Nat.add_zero]
end Go.Proofs.YthohhepoddnbnaaGreatDoor
