/- Rows of seventy words by value: one bit. galleyref02: Plus, Rest, Units. galleyref02: Rest. -/
import Derived.Test.YthohhepoddnbnaaGreatDoorMgUE
import Derived.Test.YthohhepoddnbnaaGreatDoorMgUB
import Derived.Deep.DeepCutAuto
import Derived.Deep.CutBlock
namespace Go.Proofs.YthohhepoddnbnaaGreatDoor
open Go.RowKit Fl

theorem bit_dg (n i : Nat) : dg n (i / 32) / 2 ^ (i % 32) % 2 = n / 2 ^ i % 2 := by
  have e : n / 2 ^ i = n / 2 ^ (32 * (i / 32)) / 2 ^ (i % 32) := by
    rw [Nat.div_div_eq_div_mul, ← Nat.pow_add]; congr 2; omega
  rw [e]
  unfold dg
  generalize n / 2 ^ (32 * (i / 32)) = q
  have hr : i % 32 < 32 := Nat.mod_lt _ (by decide)
  generalize i % 32 = r at *
  have e2 : (4294967296 : Nat) = 2 ^ r * 2 ^ (31 - r) * 2 := by
    rw [Nat.mul_assoc, ← Nat.pow_succ, ← Nat.pow_add]
    rw [show r + (31 - r).succ = 32 by omega]
  rw [e2, Nat.mul_assoc, Nat.mod_mul_right_div_self, Nat.mul_comm (2 ^ (31 - r)) 2, Nat.mod_mul_right_mod]
set_option maxRecDepth 100000 in
set_option maxHeartbeats 1000000 in
theorem c185 (n : Nat) (i : Nat) (w : World) (hi : i < 2240) : Calls Tryz.prog 88 #[.agg (UL n).toArray, .int .i64 i] w fun e w' => e = .returned (.int .u64 ((n / 2 ^ i % 2 : Nat) : Int)) ∧ Below w.heap.size w w' := by
  have c0 := (urow_new w n 80 (i / 32) (by omega)).1
  rw [Nat.zero_add] at c0
  have B1 : Hid (Below w.heap.size w (w.alloc (.cells (UL n).toArray 80))) := Lib.hid ((Below.refl _ _).alloc (Nat.le_refl _) _)
  have hb := bit_dg n i
  have hu := dg_lt n (i / 32)
  have HB := Lib.hid (And.intro hb hu)
  have hq : (i : Int) / 32 < 70 := by omega
  have hii : (i : Int) < 2240 := by omega
  clear hb hu
  go_enter Tryz.func88, Tryz.ntmps88
  go_wp2
  go_ret
  refine ⟨ret_int ?_, B1.out⟩
  rw [cast_div, show (1 : Int) = ((1 : Nat) : Int) from rfl, u32_and_nat _ _ (Nat.lt_of_le_of_lt (Nat.div_le_self _ _) HB.out.2) (by decide), Nat.and_one_is_mod, HB.out.1, IntKind.wrap_u64]
  have : n / 2 ^ i % 2 < 2 := Nat.mod_lt _ (by decide)
  omega
/-- nought with a sign -/
theorem c170 (neg : Bool) (w : World) : Calls Tryz.prog 116 #[.bool neg] w fun e w' => e = .returned (.float .f64 (if neg then 9223372036854775808 else 0)) ∧ w = w' := by
  have hx := fun w => x153 9223372036854775808 w
  cases neg
  · go_enter Tryz.func116, Tryz.ntmps116
    go_wp2
    go_ret
    exact ⟨rfl, rfl⟩
  · go_enter Tryz.func116, Tryz.ntmps116
    go_wp2
    go_ret
    exact ⟨rfl, rfl⟩
end Go.Proofs.YthohhepoddnbnaaGreatDoor

namespace Go.Proofs.YthohhepoddnbnaaGreatDoor
open Go.RowKit Fl

theorem dg_up (b i : Nat) : b % 2 ^ (32 * (i + 1)) = b % 2 ^ (32 * i) + dg b i * 2 ^ (32 * i) := by
  have e : 2 ^ (32 * (i + 1)) = 2 ^ (32 * i) * 4294967296 := by
    rw [show 32 * (i + 1) = 32 * i + 32 by omega, Nat.pow_add]
  have h := @Nat.mod_mul (2 ^ (32 * i)) 4294967296 b
  rw [e, h]
  exact congrArg (b % 2 ^ (32 * i) + ·) (Nat.mul_comm _ _)
structure PW (w wx : World) (n b : Nat) : Prop where
  a : URow wx w.heap.size 0 (dg n)
  b : URow wx (w.heap.size + 1) 0 (dg b)
  c : URow wx (w.heap.size + 1 + 1) 0 (fun _ => 0)
  l : Below w.heap.size w wx
  z : w.heap.size + 1 + 1 < wx.heap.size
theorem URow.only2 {w w' : World} {b c o : Nat} {f : Nat → Nat} (h : URow w b o f) (k : Only c w w') (hb : b < w.heap.size) (hc : b ≠ c) : URow w' b o f := fun j hj => by
  have e := k.block b hb hc
  have h1 := h j hj
  refine ⟨?_, ?_⟩
  · have : w'.cell? ⟨b, o + j, none⟩ = w.cell? ⟨b, o + j, none⟩ := by simp only [World.cell?, e]
    rw [this]; exact h1.1
  · have : w'.frozen? ⟨b, o + j, none⟩ = w.frozen? ⟨b, o + j, none⟩ := by simp only [World.frozen?, e]
    rw [this]; exact h1.2
theorem PW.next {w wx wy : World} {n n' b lo hi : Nat} (h : PW w wx n b) (hr : URow wy w.heap.size 0 (dg n')) (k : OnlyC w.heap.size lo hi wx wy) : PW w wy n' b := by
  have hz := h.z
  exact ⟨hr, h.b.only2 k.only (by omega) (by omega), h.c.only2 k.only (by omega) (by omega), k.only.below (Nat.le_refl _) (by omega) h.l, Nat.lt_of_lt_of_le hz k.only.size⟩
set_option maxRecDepth 100000 in
set_option maxHeartbeats 2000000 in
theorem lPlus (a b : Nat) (w : World) (hb : b < 2 ^ (32 * RC)) : Calls Tryz.prog 53 #[.agg (UL a).toArray, .agg (UL b).toArray] w fun e w' => e = .returned (.agg (UL (a + b)).toArray) ∧ Below w.heap.size w w' := by
  have HB := Lib.hid hb
  clear hb
  go_enter Tryz.func53, Tryz.ntmps53
  go_upto_region 1 with fail
  refine wp_gen' (fun wx => Hid (PW w wx a b)) ?_ ?_
  · have e1 : (w.alloc (.cells (UL a).toArray 80)).heap.size = w.heap.size + 1 := by simp
    have e2 : ((w.alloc (.cells (UL a).toArray 80)).alloc (.cells (UL b).toArray 80)).heap.size = w.heap.size + 1 + 1 := by simp
    have r0 := urow_new w a 80
    have r1 := urow_new (w.alloc (.cells (UL a).toArray 80)) b 80
    have r2 := urow_zero ((w.alloc (.cells (UL a).toArray 80)).alloc (.cells (UL b).toArray 80))
    have al := fun (W : World) (o : Obj) => (Below.refl W.heap.size W).alloc (Nat.le_refl _) o
    rw [e1] at r1
    rw [e2] at r2
    exact Lib.hid ⟨(r0.below (al _ _) (by simp)).below (al _ _) (by simp <;> omega), r1.below (al _ _) (by simp), r2, (((Below.refl _ _).alloc (Nat.le_refl _) _).alloc (by simp) _).alloc (by simp <;> omega) _, by simp⟩
  intro wc hW
  go_wp2_with fail
  go_loopw [5] (fun ii wx => ∃ i : Nat, ii = .int .i64 (i : Nat) ∧ Hid (i ≤ 70) ∧ Hid (PW w wx (a + b % 2 ^ (32 * i)) b)) (fun ii _ => 70 - (intOf ii).toNat)
  case atStart => exact ⟨0, rfl, Lib.hid (by omega), by rw [Nat.mul_zero, Nat.pow_zero, Nat.mod_one, Nat.add_zero]; exact hW⟩
  case round =>
    obtain ⟨i, rfl, hi, hI⟩ := hrel
    clear hW
    by_cases hlt : i < 70
    · have hki : (i : Int) < 70 := by omega
      have hi0 : (0 : Int) ≤ (i : Int) := by omega
      have HLT := Lib.hid hlt
      have c1 := (hI.out.b i hlt).1
      rw [Nat.zero_add] at c1
      have d2 := dg_lt b i
      have n2 : (dg b i : Int) < 4294967296 := by omega
      have e32 : Hid ((32 : Int) * (i : Int) = ((32 * i : Nat) : Int)) := Lib.hid (by omega)
      have ew : Hid (IntKind.u64.wrap (dg b i : Int) = (dg b i : Int)) := Lib.hid (by rw [IntKind.wrap_u64]; omega)
      have C := Lib.hid (c166 w.heap.size 0 (a + b % 2 ^ (32 * i)) (dg b i) (32 * i) wr (by unfold U; omega) (by omega) hI.out.a (by have := hI.out.z; omega))
      have HD := Lib.hid (dg_up b i)
      clear hlt d2
      go_wp2_with (go_at_call 89; (try rw [ew.out]); (try rw [e32.out]); refine C.out.mono ?_; rintro e w2 ⟨rfl, hr, ho⟩; have R := Lib.hid (And.intro hr ho); clear hr ho C)
      go_roundw
      case rel =>
        refine ⟨i + 1, by go_num, Lib.hid (by have := HLT.out; omega), Lib.hid ?_⟩
        have h := hI.out
        have r1 := R.out.1
        rw [Nat.add_assoc, ← HD.out] at r1
        exact h.next r1 R.out.2
      case measure => have := HLT.out; simp [intOf]; omega
    · have hki : ¬ (i : Int) < 70 := by omega
      have h70 : i = 70 := by have := hi.out; omega
      subst h70
      have e7 : 32 * 70 = 32 * RC := rfl
      have RR := Lib.hid (show wr.rangeAt w.heap.size 0 (UL (a + b)) by
        have h := hI.out.a
        rw [e7, Nat.mod_eq_of_lt HB.out] at h
        exact h.range)
      have T0 := Lib.hid (hI.out.c.there (n := (UL (a + b)).toArray.size) (by rw [List.size_toArray, UL_len]))
      have T1 := Lib.hid (hI.out.c.there (n := (UL (a + b)).length) (UL_len _))
      have E1 := Lib.hid (show (Tryz.prog.info? 80).map (·.size) = some (UL (a + b)).length by rw [UL_len]; exact size108)
      have E2 := Lib.hid (show (Tryz.prog.info? 80).map (·.size) = some (UL (a + b)).toArray.size by rw [List.size_toArray, UL_len]; exact size108)
      have BB := Lib.hid (below_setCells hI.out.l (show w.heap.size ≤ w.heap.size + 1 + 1 by omega) 0 (UL (a + b)))
      clear hlt hi hI e7
      go_wp2_with (first
        | (refine wpList_load_mid rfl 80 (.tmp 2) rfl w.heap.size 0 rfl (UL (a + b)) _ RR.out Tryz.underlying80 rfl E1.out ?_)
        | (refine wpList_store_mid rfl 80 (.tmp 4) (.tmp 17) rfl (w.heap.size + 1 + 1) 0 (UL (a + b)).toArray rfl rfl T0.out E2.out (UL_one _) ?_))
      refine bodyPost_ret (v := .agg (UL (a + b)).toArray) (results_cell1 Tryz.results53 rfl (run_loadVar_mid (P := Tryz.prog) _ _ 0 80 (UL (a + b)) _ (World.rangeAt_setCells_same _ _ _ _ T1.out) Tryz.underlying80 rfl E1.out)) rfl ⟨rfl, BB.out⟩
end Go.Proofs.YthohhepoddnbnaaGreatDoor

namespace Go.Proofs.YthohhepoddnbnaaGreatDoor
open Go.RowKit Fl

theorem rem_step (a b i : Nat) (hb : 0 < b) : a / 2 ^ i % b = (if b ≤ 2 * (a / 2 ^ (i + 1) % b) + a / 2 ^ i % 2 then 2 * (a / 2 ^ (i + 1) % b) + a / 2 ^ i % 2 - b else 2 * (a / 2 ^ (i + 1) % b) + a / 2 ^ i % 2) := by
  have e : a / 2 ^ (i + 1) = a / 2 ^ i / 2 := by rw [Nat.div_div_eq_div_mul, ← Nat.pow_succ]
  rw [e]
  generalize a / 2 ^ i = x
  have h1 := Nat.mod_lt (x / 2) hb
  have h2 : x = 2 * (x / 2) + x % 2 := by omega
  have h3 := Nat.div_add_mod (x / 2) b
  have h4 : x % 2 < 2 := Nat.mod_lt _ (by decide)
  have h5 : x % b = (2 * (x / 2 % b) + x % 2) % b := by
    conv => lhs; rw [h2, ← h3]
    rw [Nat.mul_add, Nat.add_assoc, Nat.mul_left_comm, Nat.mul_add_mod]
  rw [h5]
  split
  · rename_i h
    rw [Nat.mod_eq_sub_mod h, Nat.mod_eq_of_lt (by omega)]
  · rename_i h
    exact Nat.mod_eq_of_lt (by omega)
theorem wpLG {P : Program} {ops : Array Oper} {rest : List Oper} {Q : Exit → Act → World → Prop} {a : Act} {w : World} (R : World → Prop) (h : R w) (k : ∀ wx, R wx → wpList P ops Q rest a wx) : wpList P ops Q rest a w := k w h
theorem lt_twice {n b t m X : Nat} (h : 2 * b < X) (hn : n < b) (ht : t < 2) (hm : m = 2 * n + t) : m < X := by omega
theorem lt_half {b X : Nat} (h : 2 * b < X) : b < X := by omega
structure RW (w wx : World) (a b n : Nat) : Prop where
  a : URow wx w.heap.size 0 (dg a)
  b : URow wx (w.heap.size + 1) 0 (dg b)
  c : URow wx (w.heap.size + 1 + 1) 0 (fun _ => 0)
  r : URow wx (w.heap.size + 1 + 1 + 1) 0 (dg n)
  l : Below w.heap.size w wx
  z : w.heap.size + 1 + 1 + 1 < wx.heap.size
theorem urow_laid {w : World} {b n m : Nat} (h : URow w b 0 (dg n)) : URow (w.setCells b 0 (UL m)) b 0 (dg m) := fun j hj => by
  have T := h.there (n := (UL m).length) (UL_len _)
  have R := World.rangeAt_setCells_same w b 0 (UL m) T
  refine ⟨?_, ?_⟩
  · exact R j _ (UL_get m j hj)
  · rw [World.frozen?_setCells]; exact (h j hj).2
theorem RW.only {w wx wy : World} {a b n n' : Nat} (h : RW w wx a b n) (hr : URow wy (w.heap.size + 1 + 1 + 1) 0 (dg n')) (k : Only (w.heap.size + 1 + 1 + 1) wx wy) : RW w wy a b n' := by
  have hz := h.z
  exact ⟨h.a.only2 k (by omega) (by omega), h.b.only2 k (by omega) (by omega), h.c.only2 k (by omega) (by omega), hr, k.below (by omega) (by omega) h.l, Nat.lt_of_lt_of_le hz k.size⟩
theorem RW.below {w wx wy : World} {a b n : Nat} (h : RW w wx a b n) (k : Below wx.heap.size wx wy) : RW w wy a b n := h.only (h.r.below k h.z) (.of_below k)
theorem RW.lay {w wx : World} {a b n : Nat} (h : RW w wx a b n) (m : Nat) : RW w (wx.setCells (w.heap.size + 1 + 1 + 1) 0 (UL m)) a b m := h.only (urow_laid h.r) ((Only.refl _ _).setCells 0 _)
theorem cmp_ge_iff (n b : Nat) : (0 ≤ cmpN n b) ↔ b ≤ n := by
  unfold cmpN
  split
  · constructor <;> intro <;> omega
  · split
    · constructor <;> intro h <;> omega
    · constructor <;> intro <;> omega
set_option maxRecDepth 100000 in
set_option maxHeartbeats 1000000 in
theorem lRest (a b : Nat) (w : World) (hb0 : 0 < b) (hb : 2 * b < 2 ^ (32 * RC)) (ha : a < 2 ^ (32 * RC)) : Calls Tryz.prog 50 #[.agg (UL a).toArray, .agg (UL b).toArray] w fun e w' => e = .returned (.agg (UL (a % b)).toArray) ∧ Below w.heap.size w w' := by
  have HB := Lib.hid (And.intro hb0 (And.intro hb ha))
  have E1 := Lib.hid (fun n => show (Tryz.prog.info? 80).map (·.size) = some (UL n).length by rw [UL_len]; exact size108)
  have E2 := Lib.hid (fun n => show (Tryz.prog.info? 80).map (·.size) = some (UL n).toArray.size by rw [List.size_toArray, UL_len]; exact size108)
  clear hb0 hb ha
  go_enter Tryz.func50, Tryz.ntmps50
  go_upto_region 2 with fail
  refine wp_gen' (fun wx => Hid (RW w wx a b 0)) ?_ ?_
  · have e1 : (w.alloc (.cells (UL a).toArray 80)).heap.size = w.heap.size + 1 := by simp
    have e2 : ((w.alloc (.cells (UL a).toArray 80)).alloc (.cells (UL b).toArray 80)).heap.size = w.heap.size + 1 + 1 := by simp
    have e3 : (((w.alloc (.cells (UL a).toArray 80)).alloc (.cells (UL b).toArray 80)).alloc (.cells (Array.replicate 70 (.int .u32 0)) 80)).heap.size = w.heap.size + 1 + 1 + 1 := by simp
    have r0 := urow_new w a 80
    have r1 := urow_new (w.alloc (.cells (UL a).toArray 80)) b 80
    have r2 := urow_zero ((w.alloc (.cells (UL a).toArray 80)).alloc (.cells (UL b).toArray 80))
    have r3 := urow_zero (((w.alloc (.cells (UL a).toArray 80)).alloc (.cells (UL b).toArray 80)).alloc (.cells (Array.replicate 70 (.int .u32 0)) 80))
    have al := fun (W : World) (o : Obj) => (Below.refl W.heap.size W).alloc (Nat.le_refl _) o
    rw [e1] at r1
    rw [e2] at r2
    rw [e3] at r3
    exact Lib.hid ⟨((r0.below (al _ _) (by simp)).below (al _ _) (by simp <;> omega)).below (al _ _) (by simp <;> omega), (r1.below (al _ _) (by simp)).below (al _ _) (by simp <;> omega), r2.below (al _ _) (by simp), r3.congr (fun j _ => by unfold dg; rw [Nat.zero_div]), ((((Below.refl _ _).alloc (Nat.le_refl _) _).alloc (by simp) _).alloc (by simp <;> omega) _).alloc (by simp <;> omega) _, by simp⟩
  intro wc hW
  go_wp2_with fail
  go_loopw [6] (fun ii wx => ∃ k : Nat, ii = .int .i64 ((k : Int) - 1) ∧ Hid (k ≤ 2240) ∧ Hid (RW w wx a b (a / 2 ^ k % b))) (fun ii _ => (intOf ii + 1).toNat)
  case atStart => exact ⟨32 * RC, rfl, Lib.hid (by rw [RC_eq]; omega), by rw [Nat.div_eq_of_lt HB.out.2.2, Nat.zero_mod]; exact hW⟩
  case round =>
    obtain ⟨k, rfl, hk, hI⟩ := hrel
    clear hW
    rcases k with _ | i
    · have ez : ((0 : Nat) : Int) - 1 = -1 := rfl
      rw [ez]
      have RR := Lib.hid (show wr.rangeAt (w.heap.size + 1 + 1 + 1) 0 (UL (a % b)) by have := hI.out.r; rw [Nat.pow_zero, Nat.div_one] at this; exact this.range)
      have T0 := Lib.hid (hI.out.c.there (n := (UL (a % b)).toArray.size) (by rw [List.size_toArray, UL_len]))
      have T1 := Lib.hid (hI.out.c.there (n := (UL (a % b)).length) (UL_len _))
      have BB := Lib.hid (below_setCells hI.out.l (show w.heap.size ≤ w.heap.size + 1 + 1 by omega) 0 (UL (a % b)))
      clear hk hI
      go_wp2_with (first
        | (refine wpList_load_mid rfl 80 (.tmp 5) rfl (w.heap.size + 1 + 1 + 1) 0 rfl (UL (a % b)) _ RR.out Tryz.underlying80 rfl (E1.out _) ?_)
        | (refine wpList_store_mid rfl 80 (.tmp 4) (.tmp 26) rfl (w.heap.size + 1 + 1) 0 (UL (a % b)).toArray rfl rfl T0.out (E2.out _) (UL_one _) ?_))
      refine bodyPost_ret (v := .agg (UL (a % b)).toArray) (results_cell1 Tryz.results50 rfl (run_loadVar_mid (P := Tryz.prog) _ _ 0 80 (UL (a % b)) _ (World.rangeAt_setCells_same _ _ _ _ T1.out) Tryz.underlying80 rfl (E1.out _))) rfl ⟨rfl, BB.out⟩
    · have ei : ((i + 1 : Nat) : Int) - 1 = (i : Int) := by omega
      rw [ei]
      clear ei
      have hi2 : (i : Int) ≤ 2239 := by have := hk.out; omega
      have hi0 : (0 : Int) ≤ (i : Int) := by omega
      have HS := Lib.hid (rem_step a b i HB.out.1)
      have HN := Lib.hid (Nat.mod_lt (a / 2 ^ (i + 1)) HB.out.1)
      generalize a / 2 ^ (i + 1) % b = n at *
      have C53 := Lib.hid (fun w => lPlus n n w (Nat.lt_trans HN.out (lt_half HB.out.2.1)))
      have C88 := Lib.hid (fun w => c185 a i w (by have := hk.out; omega))
      obtain ⟨t, ht⟩ : ∃ t, t = a / 2 ^ i % 2 := ⟨_, rfl⟩
      have HT := Lib.hid (show t < 2 by rw [ht]; exact Nat.mod_lt _ (by decide))
      rw [← ht] at HS C88
      clear ht
      go_upto_region 6 with (first
        | (go_at_call 53; refine (C53.out _).mono ?_; rintro e w2 ⟨rfl, hb2⟩; replace hI := Lib.hid (hI.out.below hb2); clear hb2 C53)
        | (refine wpList_load_mid rfl 80 (.tmp 5) rfl (w.heap.size + 1 + 1 + 1) 0 rfl (UL n) _ hI.out.r.range Tryz.underlying80 rfl (E1.out _) ?_)
        | (refine wpList_store_mid rfl 80 (.tmp 5) (.tmp 13) rfl (w.heap.size + 1 + 1 + 1) 0 (UL (n + n)).toArray rfl rfl (hI.out.r.there (by rw [List.size_toArray, UL_len])) (E2.out _) (UL_one _) ?_))
      refine wp_gen' (fun wx => Hid (RW w wx a b (n + n))) (Lib.hid (hI.out.lay (n + n))) ?_
      intro w3 hJ
      clear hI w2
      go_upto_if 17 with (first
        | (go_at_call 88; refine (C88.out _).mono ?_; rintro e w4 ⟨rfl, hb4⟩; replace hJ := Lib.hid (hJ.out.below hb4); clear hb4 C88)
        | (refine wpList_load_mid rfl 80 (.tmp 2) rfl w.heap.size 0 rfl (UL a) _ hJ.out.a.range Tryz.underlying80 rfl (E1.out _) ?_))
      obtain ⟨m, hm⟩ : ∃ m, m = 2 * n + t := ⟨_, rfl⟩
      have HM := Lib.hid hm
      rw [← hm] at HS
      clear hm
      go_cut [6] from 7 to 25 (fun u wx => u = .int .i64 (i : Int) ∧ Hid (RW w wx a b m))
      case first =>
        have ht2 : t = 0 ∨ t = 1 := by have := HT.out; omega
        rcases ht2 with rfl | rfl
        · have J2 : Hid (RW w w4 a b m) := Lib.hid (by rw [HM.out, Nat.add_zero, Nat.two_mul]; exact hJ.out)
          go_wp2_with fail
          go_meet
          exact ⟨rfl, J2⟩
        · have C := Lib.hid (show Calls Tryz.prog 89 #[.pointer (some ⟨w.heap.size + 1 + 1 + 1, 0, none⟩), .int .u64 1, .int .i64 0] w4 _ from c166 (w.heap.size + 1 + 1 + 1) 0 (n + n) 1 0 w4 (by unfold U; decide) (by decide) hJ.out.r hJ.out.z)
          go_wp2_with (go_at_call 89; refine C.out.mono ?_; rintro e w5 ⟨rfl, hr, ho⟩; have J2 : Hid (RW w w5 a b m) := Lib.hid (hJ.out.only (by rw [HM.out, Nat.two_mul]; simpa using hr) ho.only); clear hr ho C)
          go_meet
          exact ⟨rfl, J2⟩
      case rest =>
        obtain ⟨rfl, hK⟩ := hcut
        clear hJ
        have C51 := Lib.hid (fun w => c167 m b w (lt_twice HB.out.2.1 HN.out HT.out HM.out) (lt_half HB.out.2.1))
        by_cases hge : b ≤ m
        · have hc : 0 ≤ cmpN m b := (cmp_ge_iff m b).2 hge
          have C52 := Lib.hid (fun w => c169 m b w hge)
          rw [if_pos hge] at HS
          clear hge
          generalize cmpN m b = cm at *
          go_upto_region 9 with (first
            | (go_at_call 51; refine (C51.out _).mono ?_; rintro e w6 ⟨rfl, hb6⟩; replace hK := Lib.hid (hK.out.below hb6); clear hb6 C51)
            | (refine wpList_load_mid rfl 80 (.tmp 5) rfl (w.heap.size + 1 + 1 + 1) 0 rfl (UL m) _ hK.out.r.range Tryz.underlying80 rfl (E1.out _) ?_)
            | (refine wpList_load_mid rfl 80 (.tmp 3) rfl (w.heap.size + 1) 0 rfl (UL b) _ hK.out.b.range Tryz.underlying80 rfl (E1.out _) ?_))
          go_wp2_with (first
            | (go_at_call 52; refine (C52.out _).mono ?_; rintro e w7 ⟨rfl, hb7⟩; replace hK := Lib.hid (hK.out.below hb7); clear hb7 C52)
            | (refine wpList_load_mid rfl 80 (.tmp 5) rfl (w.heap.size + 1 + 1 + 1) 0 rfl (UL m) _ hK.out.r.range Tryz.underlying80 rfl (E1.out _) ?_)
            | (refine wpList_load_mid rfl 80 (.tmp 3) rfl (w.heap.size + 1) 0 rfl (UL b) _ hK.out.b.range Tryz.underlying80 rfl (E1.out _) ?_)
            | (refine wpList_store_mid rfl 80 (.tmp 5) (.tmp 25) rfl (w.heap.size + 1 + 1 + 1) 0 (UL (m - b)).toArray rfl rfl (hK.out.r.there (by rw [List.size_toArray, UL_len])) (E2.out _) (UL_one _) ?_; refine wpLG (fun wx => Hid (RW w wx a b (m - b))) (Lib.hid (hK.out.lay (m - b))) ?_; intro w8 h8; clear hK))
          go_roundw
          case rel => exact ⟨i, rfl, Lib.hid (by have := hk.out; omega), by rw [HS.out]; exact h8⟩
          case measure => simp [intOf]
        · have hc : ¬ 0 ≤ cmpN m b := fun h => hge ((cmp_ge_iff m b).1 h)
          rw [if_neg hge] at HS
          clear hge
          generalize cmpN m b = cm at *
          go_wp2_with (first
            | (go_at_call 51; refine (C51.out _).mono ?_; rintro e w6 ⟨rfl, hb6⟩; replace hK := Lib.hid (hK.out.below hb6); clear hb6 C51)
            | (refine wpList_load_mid rfl 80 (.tmp 5) rfl (w.heap.size + 1 + 1 + 1) 0 rfl (UL m) _ hK.out.r.range Tryz.underlying80 rfl (E1.out _) ?_)
            | (refine wpList_load_mid rfl 80 (.tmp 3) rfl (w.heap.size + 1) 0 rfl (UL b) _ hK.out.b.range Tryz.underlying80 rfl (E1.out _) ?_))
          go_roundw
          case rel => exact ⟨i, rfl, Lib.hid (by have := hk.out; omega), Lib.hid (by rw [HS.out]; exact hK.out)⟩
          case measure => simp [intOf]
end Go.Proofs.YthohhepoddnbnaaGreatDoor
