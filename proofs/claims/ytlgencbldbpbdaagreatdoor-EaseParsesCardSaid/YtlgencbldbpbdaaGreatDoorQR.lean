/- galleyref03: against. -/
import Derived.Test.YtlgencbldbpbdaaGreatDoorMgDhK
import Derived.Test.YtlgencbldbpbdaaGreatDoorMgQN
import Derived.Deep.RegionHeld3
import Derived.Deep.DeepCutAuto
import Derived.IntWalk
namespace Go.Proofs.YtlgencbldbpbdaaGreatDoor.R
open Go.RowKit Fl
theorem BdN {B : Nat} {a w : World} (h : Below B a w) (n : Nat) : Below B a (w.drewN n) := ⟨h.os, h.tape, h.output, h.size, h.block⟩
theorem split_mul (y m : Nat) : y * (m % BB) + 0 + (y * (m / BB) + 0) * 2 ^ 32 = y * m := by
 have h := Nat.mod_add_div m BB
 have e : (2 : Nat) ^ 32 = BB := rfl
 rw [e, Nat.add_zero, Nat.add_zero]
 conv => rhs; rw [← h]
 rw [Nat.mul_add, Nat.mul_comm BB, Nat.mul_assoc]
theorem lt_more {x L : Nat} (h : x < BB ^ L) (k : Nat) : x < BB ^ (L + k) := Nat.lt_of_lt_of_le h (Nat.pow_le_pow_right BB_pos (Nat.le_add_right _ _))
theorem lt_times {y m L : Nat} (h : y < BB ^ L) (hm : m < BB) : y * m + 0 < BB ^ (L + 1) := by
 rw [Nat.add_zero, Nat.pow_succ]
 exact Nat.lt_of_le_of_lt (Nat.mul_le_mul_left y (Nat.le_of_lt hm)) (Nat.mul_lt_mul_of_pos_right h BB_pos)
set_option maxRecDepth 100000 in
set_option maxHeartbeats 4000000 in
theorem cAgainst {w : World} {va vb : Value} {x y m L : Nat} {k : Int} (hva : NV w va x) (hvb : NV w vb y) (hm : m < 18446744073709551616) (hk1 : -1000000 ≤ k) (hk2 : k ≤ 1000000) (hL : L ≤ 9990) (hx : x * 2 ^ (-k).toNat < BB ^ L) (hy : y * m * 2 ^ k.toNat < BB ^ L) (hyL : y < BB ^ L) :
  Calls Tryz.prog 223 #[.agg #[va, vb], .int .u64 m, .int .i64 k] w fun e w' => (∃ r, e = .returned (.int .i64 r) ∧ CmpR (x * 2 ^ (-k).toNat) (y * m * 2 ^ k.toNat) r) ∧ Below w.heap.size w w' := by
 obtain ⟨X, hX⟩ : ∃ X, X = x * 2 ^ (-k).toNat := ⟨_, rfl⟩
 obtain ⟨Y, hY⟩ : ∃ Y, Y = y * m * 2 ^ k.toNat := ⟨_, rfl⟩
 rw [← hX] at hx ⊢
 rw [← hY] at hy ⊢
 have HX := Lib.hid hX
 have HY := Lib.hid hY
 clear hX hY
 have w1 := u32_wrap m
 obtain ⟨ml, hml⟩ : ∃ ml, ml = m % BB := ⟨_, rfl⟩
 obtain ⟨mh, hmh⟩ : ∃ mh, mh = m / BB := ⟨_, rfl⟩
 have lh : mh < BB := by rw [hmh]; unfold BB; omega
 have ll : ml < BB := by rw [hml]; exact Nat.mod_lt _ BB_pos
 have w2 : (m : Int) / 4294967296 = (mh : Int) := by rw [hmh]; unfold BB; omega
 have w3 : IntKind.u32.wrap (mh : Int) = (mh : Int) := by rw [u32_wrap, Nat.mod_eq_of_lt lh]
 rw [← hml] at w1
 have SM := split_mul y m
 rw [← hml, ← hmh] at SM
 have SM := Lib.hid SM
 have CL := Lib.hid (fun wx (h : Below w.heap.size w wx) => show Calls Tryz.prog 228 #[vb, .int .u32 ml, .int .u32 0] wx _ from cTimes (m := ml) (c := 0) (hvb.below h) (show L ≤ 10000 by omega) hyL ll BB_pos)
 have CH := Lib.hid (fun wx (h : Below w.heap.size w wx) => show Calls Tryz.prog 228 #[vb, .int .u32 mh, .int .u32 0] wx _ from cTimes (m := mh) (c := 0) (hvb.below h) (show L ≤ 10000 by omega) hyL lh BB_pos)
 have b1 := lt_times hyL ll
 have b2 := lt_times hyL lh
 have b3 : (y * mh + 0) * 2 ^ 32 < BB ^ (L + 2) := by
  have e : (2 : Nat) ^ 32 = BB := rfl
  rw [e, show L + 2 = L + 1 + 1 from rfl, Nat.pow_succ]
  exact Nat.mul_lt_mul_of_pos_right b2 BB_pos
 have CT := Lib.hid (fun (wx : World) v (h : NV wx v (y * mh + 0)) => show Calls Tryz.prog 224 #[v, .int .i64 32] wx _ from cTwos (n := 32) h (show L + 2 ≤ 10000 by omega) b3 (by decide))
 have CP := Lib.hid (fun (wx : World) v u (h : NV wx v (y * ml + 0)) (h2 : NV wx u ((y * mh + 0) * 2 ^ 32)) => cPlus h h2 (show L + 2 ≤ 10000 by omega) (lt_more b1 1) b3)
 have HK := Lib.hid (And.intro hk1 (And.intro hk2 (And.intro hL (And.intro hx hy))))
 have VA := Lib.hid hva
 clear hva hvb hm hL hx hy hyL hml hmh lh ll b1 b2 b3
 have B0 : Hid (Below w.heap.size w (w.alloc (.cells #[va, vb] 235))) := Lib.hid ((Below.refl _ _).alloc (Nat.le_refl _) _)
 go_enter Tryz.func223, Tryz.ntmps223
 go_upto_region 2 with fail
 refine wp_gen' (fun wx => Hid (wx.cell? ⟨w.heap.size, 1, none⟩ = some vb ∧ w.heap.size < wx.heap.size ∧ Below w.heap.size w wx)) (Lib.hid ⟨by simp [go_sem], by simp, B0.out⟩) ?_
 intro w0 hW
 clear B0
 go_cut [8] (fun u wx => Hid (NV wx u (y * m) ∧ Below w.heap.size w wx))
 case first =>
  rename_i JJ QQ HRJ HMK
  have kc : w0.drew.cell? ⟨w.heap.size, 1, none⟩ = some vb := hW.out.1
  have J : Hid (Below w0.heap.size w0 w0.drew) := Lib.hid (BdN (Below.refl _ _) 1)
  have KK : Hid (∀ wx : World, Below w0.heap.size w0 wx → wx.cell? ⟨w.heap.size, 1, none⟩ = some vb) := Lib.hid fun wx h => (h.cell (p := ⟨w.heap.size, 1, none⟩) hW.out.2.1).trans hW.out.1
  have TW : Hid (∀ wx : World, Below w0.heap.size w0 wx → Below w.heap.size w wx) := Lib.hid fun wx h => hW.out.2.2.trans (h.mono hW.out.2.2.size)
  go_region_held3 (fun w' => w'.cell? ⟨w.heap.size, 1, none⟩ = some vb) (exact KK.out _ J.out) (first
   | (go_at_call 228; with_reducible refine (CL.out _ (TW.out _ J.out)).mono ?_; rintro e w3 ⟨hb, v15, rfl, h15, -⟩; replace J := Lib.hid (J.out.trans (hb.mono J.out.size)); have K15 := Lib.hid h15; (try replace K21 := Lib.hid (K21.out.below hb)); (try replace K22 := Lib.hid (K22.out.below hb)); clear hb h15)
   | (go_at_call 228; with_reducible refine (CH.out _ (TW.out _ J.out)).mono ?_; rintro e w4 ⟨hb, v21, rfl, h21, -⟩; replace J := Lib.hid (J.out.trans (hb.mono J.out.size)); have K21 := Lib.hid h21; (try replace K15 := Lib.hid (K15.out.below hb)); clear hb h21)
   | (go_at_call 224; with_reducible refine (CT.out _ _ K21.out).mono ?_; rintro e w5 ⟨hb, v22, rfl, h22⟩; replace J := Lib.hid (J.out.trans (hb.mono J.out.size)); have K22 := Lib.hid h22; (try replace K15 := Lib.hid (K15.out.below hb)); clear hb h22 K21)
   | (go_at_call 276; with_reducible refine (CP.out _ _ _ K15.out K22.out).mono ?_; rintro e w6 ⟨hb, v23, rfl, h23⟩; replace J := Lib.hid (J.out.trans (hb.mono J.out.size)); have K23 := Lib.hid h23; clear hb h23))
  all_goals
   refine HMK _ _ (Met.intro (HRJ _ _ ?_))
   (repeat apply Exists.intro)
   exact ⟨Lib.hid ⟨by rw [← SM.out]; exact K23.out, TW.out _ J.out⟩, rfl⟩
 case rest =>
  clear CL CH CT CP hW w1 w2 w3
  have HC := hcut
  clear hcut
  by_cases hk : 0 ≤ k
  ·obtain ⟨n, rfl⟩ : ∃ n : Nat, k = (n : Int) := ⟨k.toNat, by omega⟩
   have e1 : (-(n : Int)).toNat = 0 := by omega
   have e2 : ((n : Int)).toNat = n := by omega
   have EX : X = x := by rw [HX.out, e1, Nat.pow_zero, Nat.mul_one]
   have EY : Y = y * m * 2 ^ n := by rw [HY.out, e2]
   have n1 : (n : Int) ≤ 1000000 := HK.out.2.1
   have n0 : (0 : Int) ≤ (n : Int) := by omega
   have C2 := Lib.hid (cTwos (n := n) HC.out.1 (show L ≤ 10000 by have := HK.out.2.2.1; omega) (EY ▸ HK.out.2.2.2.2) (by omega))
   have C3 := Lib.hid (fun (wx : World) v u (h : NV wx v x) (h2 : NV wx u (y * m * 2 ^ n)) => cCmp (EX ▸ h : NV wx v X) (EY ▸ h2 : NV wx u Y) (show L ≤ 10000 by have := HK.out.2.2.1; omega) HK.out.2.2.2.1 HK.out.2.2.2.2)
   clear hk e1 e2 EX EY
   go_wp2_with (first
    | (go_at_call 224; refine C2.out.mono ?_; rintro e w7 ⟨hb, v24, rfl, h24⟩; have I := Lib.hid (HC.out.2.trans (hb.mono HC.out.2.size)); have K24 := Lib.hid h24; clear hb h24)
    | (go_at_call 226; refine (C3.out _ _ _ (VA.out.below I.out) K24.out).mono ?_; rintro e w8 ⟨⟨r, rfl, hr⟩, nd, rfl⟩; have HR := Lib.hid hr; clear hr))
   go_ret
   exact ⟨⟨_, rfl, HR.out⟩, BdN I.out _⟩
  ·obtain ⟨n, rfl⟩ : ∃ n : Nat, k = -(n : Int) := ⟨(-k).toNat, by omega⟩
   have e1 : (- -(n : Int)).toNat = n := by omega
   have e2 : (-(n : Int)).toNat = 0 := by omega
   have EX : X = x * 2 ^ n := by rw [HX.out, e1]
   have EY : Y = y * m := by rw [HY.out, e2, Nat.pow_zero, Nat.mul_one]
   have n1 : (n : Int) ≤ 1000000 := by have := HK.out.1; omega
   have n0 : (1 : Int) ≤ (n : Int) := by omega
   have n2 : IntKind.i64.wrap (- -(n : Int)) = (n : Int) := by rw [Int.neg_neg]; exact IntWalk.i64_in _ (by omega)
   have n3 : ¬ (0 : Int) ≤ -(n : Int) := by omega
   have C2 := Lib.hid (cTwos (n := n) (VA.out.below HC.out.2) (show L ≤ 10000 by have := HK.out.2.2.1; omega) (EX ▸ HK.out.2.2.2.1) (by omega))
   have C3 := Lib.hid (fun (wx : World) v u (h : NV wx v (x * 2 ^ n)) (h2 : NV wx u (y * m)) => cCmp (EX ▸ h : NV wx v X) (EY ▸ h2 : NV wx u Y) (show L ≤ 10000 by have := HK.out.2.2.1; omega) HK.out.2.2.2.1 HK.out.2.2.2.2)
   clear hk e1 e2 EX EY
   go_wp2_with (first
    | (go_at_call 224; refine C2.out.mono ?_; rintro e w7 ⟨hb, v24, rfl, h24⟩; have I := Lib.hid (HC.out.2.trans (hb.mono HC.out.2.size)); have K24 := Lib.hid h24; have K8 := Lib.hid (HC.out.1.below hb); clear hb h24)
    | (go_at_call 226; refine (C3.out _ _ _ K24.out K8.out).mono ?_; rintro e w8 ⟨⟨r, rfl, hr⟩, nd, rfl⟩; have HR := Lib.hid hr; clear hr))
   go_ret
   exact ⟨⟨_, rfl, HR.out⟩, BdN I.out _⟩
end Go.Proofs.YtlgencbldbpbdaaGreatDoor.R
