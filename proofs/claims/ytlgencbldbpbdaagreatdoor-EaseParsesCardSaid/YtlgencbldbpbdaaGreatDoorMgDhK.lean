/- digits.read. Whole numbers as rows of words of 32 bits: plain laws. Sub, Add, Times: plain laws. Rows of words of 32 bits in memory; galleyref03.trim. Rows of words that a call makes: one more word behind them. galleyref03.times. galleyref03.plus (printed by gen_qp.py). -/
import Derived.Test.YtlgencbldbpbdaaGreatDoorMgDhE
import Derived.Test.YtlgencbldbpbdaaGreatDoorMgDhF
import Derived.Test.YtlgencbldbpbdaaGreatDoorMgDhB
import Derived.Test.YtlgencbldbpbdaaGreatDoorLgN
import Derived.Deep.DeepCutAuto
import Derived.IntWalk
import Derived.Test.YtlgencbldbpbdaaGreatDoorMgLgE
import Derived.Test.YtlgencbldbpbdaaGreatDoorMgDhD
import Derived.Deep.AppendLies
namespace Go.Proofs.YtlgencbldbpbdaaGreatDoor
open Go.RowKit Fl
theorem bl_app1 (y : ByteArray) : bl (y.extract 0 800 ++ ⟨#[49]⟩) = (bl y).take 800 ++ [49] := by
 rw [bl_append, bl_extract, List.drop_zero]; rfl
set_option maxRecDepth 100000 in
set_option maxHeartbeats 4000000 in
theorem lRead (s : ByteArray) (point : Int) (w : World) (hd : DG (bl s)) (hs : s.size ≤ 562949953421312) (hp : -9223372036854775808 ≤ point ∧ point ≤ 9223372036854775807) :
  Calls Tryz.prog 192 #[.string s, .int .i64 point] w fun e w' => e = .returned (.float .f64 (readF (bl s) point)) ∧ Below w.heap.size w w' := by
 have HD := Lib.hid hd
 have LB := Lib.hid (bl_len s)
 have hp1 := hp.1
 have hp2 := hp.2
 have hs2 : (s.size : Int) ≤ 562949953421312 := by omega
 obtain ⟨R, hR⟩ : ∃ R, R = readF (bl s) point := ⟨_, rfl⟩
 rw [← hR]
 have HR := Lib.hid hR
 obtain ⟨f, hf⟩ : ∃ f, f = lead (bl s) := ⟨_, rfl⟩
 have HF := Lib.hid hf
 have fle : f ≤ s.size := by rw [hf, ← bl_len s]; exact lead_le _
 have CT := Lib.hid (lTrimL s w (by omega))
 have HS := Lib.hid (And.intro hs fle)
 clear hd hp hs hR hf fle
 go_enter Tryz.func192, Tryz.ntmps192
 go_upto_region 2 with (go_at_call 255; refine CT.out.mono ?_; rintro e w' ⟨⟨z, rfl, hz⟩, rfl⟩)
 have zs : z.size + f = s.size := by
  have := congrArg List.length hz
  rw [bl_len, List.length_drop, bl_len, ← HF.out] at this
  have := HS.out.2
  omega
 have HZ := Lib.hid hz
 clear hz CT
 by_cases h1 : f = s.size
 ·have RF : R = 0 := by
   rw [HR.out]; unfold readF
   rw [if_pos (.inl (strip_nil (by rw [← HF.out, LB.out]; exact h1)))]
  obtain ⟨e1, e2, -⟩ := empty_bl (s := z) (by omega)
  replace RF := Lib.hid RF
  clear h1 zs
  go_wp2_with fail
  go_ret
  exact ⟨by rw [RF.out]; rfl, Below.refl _ _⟩
 ·obtain ⟨e1, e2⟩ := full_bl (s := z) (by have := HS.out.2; omega)
  have hne : lead (bl s) < (bl s).length := by rw [← HF.out, LB.out]; have := HS.out.2; omega
  obtain ⟨r0, hr0⟩ := strip_some hne
  have hh := lead_not _ hne
  have hnn : stripD (bl s) ≠ [] := by rw [hr0]; exact List.cons_ne_nil _ _
  have RF := HR.out
  unfold readF at RF
  by_cases h3 : point < -1099511627776
  ·rw [if_pos (.inr h3)] at RF
   replace RF := Lib.hid RF
   clear h1 zs hne hr0 hh hnn
   go_wp2_with fail
   go_ret
   exact ⟨by rw [RF.out]; rfl, Below.refl _ _⟩
  ·rw [if_neg (fun e => e.elim hnn h3), ← HF.out] at RF
   replace RF := Lib.hid RF
   have ef : (s.size : Int) - (z.size : Int) = (f : Int) := by omega
   have zs2 : (z.size : Int) ≤ 562949953421312 := by omega
   have f2 : (f : Int) ≤ 562949953421312 := by omega
   have HRD := Lib.hid (And.intro hr0 hh)
   have ST : Hid ((bl z).take (te (bl z) 0 z.size) = stripD (bl s)) := Lib.hid (by
    rw [strip_two, HZ.out, LB.out, ← HF.out, show s.size - f = z.size by omega])
   have CR := Lib.hid (fun w => lTrimR z w (by omega))
   clear h1 zs hne hr0 hh hnn hp1
   go_upto_region 6 with (go_at_call 191; refine (CR.out _).mono ?_; rintro e w' ⟨⟨y, rfl, hy⟩, rfl⟩)
   rw [ST.out] at hy
   have HY := Lib.hid hy
   clear hy ST CR
   obtain ⟨p, hpe⟩ : ∃ p, p = point - (f : Int) := ⟨_, rfl⟩
   rw [← hpe] at RF ⊢
   have q1 : -1099511627776 - 562949953421312 ≤ p := by omega
   have q2 : p ≤ 9223372036854775807 := by omega
   clear ef hp2 h3 hpe zs2 f2
   by_cases g1 : 400 < p
   ·have RG : R = INF := by rw [RF.out, if_pos g1]
    replace RG := Lib.hid RG
    clear RF
    go_wp2_with (go_at_call 168; refine (c137p _).mono ?_; rintro e w' ⟨rfl, rfl⟩)
    go_ret
    exact ⟨by rw [RG.out]; rfl, Below.refl _ _⟩
   ·by_cases g2 : p < -400
    ·have RG : R = 0 := by rw [RF.out, if_neg g1, if_pos g2]
     replace RG := Lib.hid RG
     clear RF
     go_wp2_with fail
     go_ret
     exact ⟨by rw [RG.out]; rfl, Below.refl _ _⟩
    ·have RG : R = numF (cutD (stripD (bl s))) p := by rw [RF.out, if_neg g1, if_neg g2]
     replace RG := Lib.hid RG
     clear RF q1 q2
     have g3 : -400 ≤ p := by omega
     have g4 : p ≤ 400 := by omega
     have ys := bl_len y
     rw [HY.out] at ys
     have YS := Lib.hid ys
     have yl : y.size ≤ 562949953421312 := by
      rw [← ys, strip_len, LB.out]
      have := te_le (bl s) (lead (bl s)) s.size
      have := HS.out.1
      omega
     have yl2 : (y.size : Int) ≤ 562949953421312 := by omega
     clear ys yl
     go_upto_if 35 with fail
     go_cut [5] (fun u wx => ∃ x : ByteArray, u = .string x ∧ Hid (bl x = cutD (stripD (bl s))) ∧ wx = w)
     case first =>
      by_cases hc : 800 < y.size
      ·have hc2 : (800 : Int) < (y.size : Int) := by omega
       have E : Hid (bl (y.extract 0 800 ++ ⟨#[49]⟩) = cutD (stripD (bl s))) := Lib.hid (by
        rw [bl_app1, HY.out]; unfold cutD; rw [YS.out, if_pos hc])
       clear hc
       go_wp2_with fail
       go_meet
       exact ⟨_, rfl, E, rfl⟩
      ·have hc2 : ¬ (800 : Int) < (y.size : Int) := by omega
       have E : Hid (bl y = cutD (stripD (bl s))) := Lib.hid (by
        rw [HY.out]; unfold cutD; rw [YS.out, if_neg hc])
       clear hc
       go_wp2_with fail
       go_meet
       exact ⟨_, rfl, E, rfl⟩
     case rest =>
      obtain ⟨x, rfl, hx, rfl⟩ := hcut
      obtain ⟨d, hd⟩ : ∃ d, d = cutD (stripD (bl s)) := ⟨_, rfl⟩
      rw [← hd] at hx RG
      have xs := bl_len x
      rw [hx.out] at xs
      have dl : d.length ≤ 801 := by rw [hd]; exact cut_len _
      have DD : DG d := by rw [hd]; exact HD.out.strip.cut
      obtain ⟨r1, hr1⟩ : ∃ r1, d = (bl s).getD (lead (bl s)) 0 :: r1 := by rw [hd, HRD.out.1]; exact cut_head _ _
      obtain ⟨e, he⟩ : ∃ e, e = p - (d.length : Int) := ⟨_, rfl⟩
      obtain ⟨z0, z1, z2, z3, z4⟩ := digit_size DD hr1 HRD.out.2 dl g3 g4 he
      have ex : p - (x.size : Int) = e := by rw [he, xs]
      have xl : (x.size : Int) ≤ 801 := by omega
      have e1' : -1201 ≤ e := by omega
      have e2' : e ≤ 400 := by omega
      have RG2 : R = min (rungQ (dval d * 10 ^ e.toNat * 2 ^ K) (10 ^ (-e).toNat)) INF := by rw [RG.out]; unfold numF; rw [he]
      have PB : 0 < 10 ^ (-e).toNat := Nat.pow_pos (by decide)
      have CL := Lib.hid (lDigits x wc (by rw [hx.out]; exact DD) (by omega))
      rw [hx.out] at CL
      have bd : blen (dval d) ≤ 10000 := Nat.le_trans (blen_mono (Nat.le_mul_of_pos_right _ (Nat.pow_pos (by decide)))) z1
      have CQ : Hid (∀ (wx : World) u1 u2, NV wx u1 (dval d * 10 ^ e.toNat) → NV wx u2 (10 ^ (-e).toNat) → Calls Tryz.prog 257 #[u1, u2] wx fun x w' => x = .returned (.float .f64 R) ∧ Below wx.heap.size wx w') := Lib.hid (fun wx u1 u2 k1 k2 => by rw [RG2]; exact lRatio k1 k2 z0 PB z1 z2 z3 z4)
      replace bd := Lib.hid bd
      clear RG2 hr1 he z0 z1 z2 z3 z4 RG hd xs dl DD PB hx
      go_upto_region 13 with (first
       | (go_at_call 256; refine CL.out.mono ?_; rintro e w' ⟨hb1, v1, rfl, hv1⟩; have B1 := Lib.hid hb1; have V1 := Lib.hid hv1; clear hb1 hv1)
       | (go_at_call 244; refine (c43 1 _ (by decide)).mono ?_; rintro e w' ⟨hb2, v2, rfl, hv2⟩; have B2 := Lib.hid (B1.out.trans (hb2.mono B1.out.size)); replace V1 := Lib.hid (V1.out.below hb2); have V2 := Lib.hid hv2; clear hb2 hv2))
      clear CL
      by_cases h0 : 0 ≤ e
      ·obtain ⟨n, rfl⟩ : ∃ n : Nat, e = (n : Int) := ⟨e.toNat, by omega⟩
       rw [show ((n : Int)).toNat = n by omega, show (-(n : Int)).toNat = 0 by omega, Nat.pow_zero] at CQ
       have C39 := Lib.hid (fun w => lTen n w (by omega))
       have nb := Lib.hid (show blen (10 ^ n) ≤ 10000 from Nat.le_trans (blen_ten n) (by omega))
       have n0 : (0 : Int) ≤ (n : Int) := h0
       clear h0 e1'
       go_wp2_with (first
        | (go_at_call 188; refine (C39.out _).mono ?_; rintro e w3 ⟨hb3, v3, rfl, hv3⟩; have B3 := Lib.hid (B2.out.trans (hb3.mono B2.out.size)); replace V1 := Lib.hid (V1.out.below hb3); replace V2 := Lib.hid (V2.out.below hb3); have V3 := Lib.hid hv3; clear hb3 hv3)
        | (go_at_call 187; refine (lMul V1.out V3.out bd.out nb.out).mono ?_; rintro e w4 ⟨hb4, v4, rfl, hv4⟩; have B4 := Lib.hid (B3.out.trans (hb4.mono B3.out.size)); replace V2 := Lib.hid (V2.out.below hb4); have V4 := Lib.hid hv4; clear hb4 hv4)
        | (go_at_call 257; refine (CQ.out _ _ _ V4.out V2.out).mono ?_; rintro x w5 ⟨rfl, hb5⟩; have B5 := Lib.hid (B4.out.trans (hb5.mono B4.out.size)); clear hb5))
       go_ret
       exact ⟨rfl, B5.out⟩
      ·obtain ⟨n, rfl⟩ : ∃ n : Nat, e = -(n : Int) := ⟨(-e).toNat, by omega⟩
       rw [show (-(n : Int)).toNat = 0 by omega, show (- -(n : Int)).toNat = n by omega, Nat.pow_zero, Nat.mul_one] at CQ
       have C39 := Lib.hid (fun w => lTen n w (by omega))
       have n0 : (1 : Int) ≤ (n : Int) := by omega
       have n1 : (n : Int) ≤ 1201 := by omega
       have n2 : IntKind.i64.wrap (- -(n : Int)) = (n : Int) := by rw [Int.neg_neg]; exact IntWalk.i64_in _ (by omega)
       have n3 : ¬ (0 : Int) ≤ -(n : Int) := by omega
       clear h0 e1' e2'
       go_wp2_with (first
        | (go_at_call 188; (try rw [n2]); refine (C39.out _).mono ?_; rintro e w3 ⟨hb3, v3, rfl, hv3⟩; have B3 := Lib.hid (B2.out.trans (hb3.mono B2.out.size)); replace V1 := Lib.hid (V1.out.below hb3); have V3 := Lib.hid hv3; clear hb3 hv3)
        | (go_at_call 257; refine (CQ.out _ _ _ V1.out V3.out).mono ?_; rintro x w5 ⟨rfl, hb5⟩; have B5 := Lib.hid (B3.out.trans (hb5.mono B3.out.size)); clear hb5))
       go_ret
       exact ⟨rfl, B5.out⟩
end Go.Proofs.YtlgencbldbpbdaaGreatDoor
namespace Go.Proofs.YtlgencbldbpbdaaGreatDoor.R
def BB : Nat := 4294967296
theorem BB_pos : 0 < BB := by decide
def val : List Nat → Nat
 | [] => 0
 | x :: l => x + BB * val l
def W64 (l : List Nat) : Prop := ∀ x ∈ l, x < BB
theorem val_append (a b : List Nat) : val (a ++ b) = val a + BB ^ a.length * val b := by
 induction a with
 | nil => simp [val]
 | cons x a ih =>
   rw [List.cons_append, val, val, ih, List.length_cons, Nat.pow_succ, Nat.mul_add, Nat.add_assoc, ← Nat.mul_assoc, Nat.mul_comm BB (BB ^ a.length)]
theorem val_lt {l : List Nat} (h : W64 l) : val l < BB ^ l.length := by
 induction l with
 | nil => simp [val]
 | cons x l ih =>
   have h1 := h x (List.mem_cons_self ..)
   have h2 := ih fun y hy => h y (List.mem_cons_of_mem _ hy)
   rw [val, List.length_cons, Nat.pow_succ, Nat.mul_comm (BB ^ l.length)]
   have : BB * (val l + 1) ≤ BB * BB ^ l.length := Nat.mul_le_mul_left _ h2
   rw [Nat.mul_add, Nat.mul_one] at this
   omega
theorem val_take_succ {l : List Nat} {k : Nat} (h : k < l.length) : val (l.take (k + 1)) = val (l.take k) + BB ^ k * l.getD k 0 := by
 rw [List.take_add_one, List.getElem?_eq_getElem h, val_append, List.length_take, Nat.min_eq_left (by omega)]
 simp [val, List.getD, List.getElem?_eq_getElem h]
theorem val_replicate (n : Nat) : val (List.replicate n 0) = 0 := by
 induction n with
 | zero => rfl
 | succ n ih => rw [List.replicate_succ, val, ih, Nat.mul_zero]
theorem W64.take {l : List Nat} (h : W64 l) (k : Nat) : W64 (l.take k) := fun x hx => h x (List.mem_of_mem_take hx)
theorem W64.drop {l : List Nat} (h : W64 l) (k : Nat) : W64 (l.drop k) := fun x hx => h x (List.mem_of_mem_drop hx)
theorem W64.append {a b : List Nat} (h : W64 a) (k : W64 b) : W64 (a ++ b) := fun x hx => by
 rcases List.mem_append.1 hx with h1 | h1
 ·exact h x h1
 ·exact k x h1
theorem W64.getD {l : List Nat} (h : W64 l) (k : Nat) : l.getD k 0 < BB := by
 rw [List.getD]
 cases hk : l[k]? with
 | none => exact BB_pos
 | some x => exact h x (List.mem_of_getElem? hk)
theorem W64.replicate (n : Nat) : W64 (List.replicate n 0) := fun x hx => by rw [(List.mem_replicate.1 hx).2]; exact BB_pos
def Can (l : List Nat) : Prop := l.length = 0 ∨ l.getD (l.length - 1) 0 ≠ 0
def tn (l : List Nat) : Nat → Nat
 | 0 => 0
 | k + 1 => if l.getD k 0 = 0 then tn l k else k + 1
theorem tn_val {l : List Nat} : ∀ k, k ≤ l.length → val (l.take (tn l k)) = val (l.take k)
 | 0, _ => rfl
 | k + 1, h => by
   unfold tn
   split
   ·rename_i h0
    rw [tn_val k (by omega), val_take_succ (by omega), h0, Nat.mul_zero, Nat.add_zero]
   ·rfl
theorem tn_can {l : List Nat} : ∀ k, k ≤ l.length → Can (l.take (tn l k))
 | 0, _ => .inl (by simp [tn])
 | k + 1, h => by
   unfold tn
   split
   ·exact tn_can k (by omega)
   ·rename_i h0
    refine .inr ?_
    have e : (l.take (k + 1)).length = k + 1 := by rw [List.length_take]; omega
    rw [e, Nat.add_sub_cancel]
    rw [List.getD, List.getElem?_take, if_pos (by omega)]
    exact h0
theorem val_zero {l : List Nat} (h : Can l) (hv : val l = 0) : l = [] := by
 rcases h with h | h
 ·exact List.eq_nil_of_length_eq_zero h
 ·exfalso
  rcases Nat.eq_zero_or_pos l.length with h0 | h0
  ·rw [List.eq_nil_of_length_eq_zero h0] at h; exact h rfl
  ·have := val_take_succ (l := l) (k := l.length - 1) (by omega)
   rw [show l.length - 1 + 1 = l.length by omega, List.take_length, hv] at this
   have h1 : BB ^ (l.length - 1) * l.getD (l.length - 1) 0 = 0 := by omega
   rcases Nat.mul_eq_zero.1 h1 with h2 | h2
   ·have := Nat.pow_pos (n := l.length - 1) BB_pos
    omega
   ·exact h h2
theorem val_ge {l : List Nat} (h : Can l) (hl : 0 < l.length) : BB ^ (l.length - 1) ≤ val l := by
 rcases h with h | h
 ·omega
 ·have := val_take_succ (l := l) (k := l.length - 1) (by omega)
  rw [show l.length - 1 + 1 = l.length by omega, List.take_length] at this
  have h1 : BB ^ (l.length - 1) * 1 ≤ BB ^ (l.length - 1) * l.getD (l.length - 1) 0 := Nat.mul_le_mul_left _ (by omega)
  omega
theorem len_lt {a b : List Nat} (ha : W64 a) (hb : Can b) (h : a.length < b.length) : val a < val b := by
 have h1 := val_lt ha
 have h2 := val_ge hb (by omega)
 have h3 : BB ^ a.length ≤ BB ^ (b.length - 1) := Nat.pow_le_pow_right BB_pos (by omega)
 omega
def crw (f : Nat → Nat → Nat × Nat) (c0 : Nat) : Nat → List Nat × Nat
 | 0 => ([], c0)
 | k + 1 => ((crw f c0 k).1 ++ [(f k (crw f c0 k).2).1], (f k (crw f c0 k).2).2)
theorem cr_len (f : Nat → Nat → Nat × Nat) (c0 : Nat) : ∀ k, (crw f c0 k).1.length = k
 | 0 => rfl
 | k + 1 => by rw [crw, List.length_append, cr_len f c0 k]; rfl
def sumN (t : Nat → Nat) : Nat → Nat
 | 0 => 0
 | k + 1 => sumN t k + BB ^ k * t k
theorem cr_val {f : Nat → Nat → Nat × Nat} {c0 : Nat} {t : Nat → Nat} {n : Nat} (h : ∀ k, k < n → (f k (crw f c0 k).2).1 + BB * (f k (crw f c0 k).2).2 = t k + (crw f c0 k).2) : ∀ k, k ≤ n → val (crw f c0 k).1 + BB ^ k * (crw f c0 k).2 = sumN t k + c0
 | 0, _ => by simp [crw, val, sumN]
 | k + 1, hk => by
   have ih := cr_val h k (by omega)
   have hs := h k (by omega)
   rw [crw, sumN]
   simp only
   rw [val_append, cr_len]
   simp only [val, Nat.mul_zero, Nat.add_zero]
   rw [Nat.pow_succ, Nat.mul_assoc, Nat.add_assoc, ← Nat.mul_add, hs, Nat.mul_add]
   omega
theorem sumN_val {l : List Nat} : ∀ k, k ≤ l.length → sumN (fun i => l.getD i 0) k = val (l.take k)
 | 0, _ => rfl
 | k + 1, h => by rw [sumN, sumN_val k (by omega), val_take_succ (by omega)]
theorem sumN_mul (t : Nat → Nat) (m : Nat) : ∀ k, sumN (fun i => t i * m) k = sumN t k * m
 | 0 => by simp [sumN]
 | k + 1 => by rw [sumN, sumN, sumN_mul t m k, Nat.add_mul, Nat.mul_assoc]
theorem sumN_add (t u : Nat → Nat) : ∀ k, sumN (fun i => t i + u i) k = sumN t k + sumN u k
 | 0 => rfl
 | k + 1 => by rw [sumN, sumN, sumN, sumN_add t u k, Nat.mul_add]; omega
theorem sumN_pad {l : List Nat} : ∀ n, l.length ≤ n → sumN (fun i => l.getD i 0) n = val l
 | n, h => by
   induction n with
   | zero => rw [List.eq_nil_of_length_eq_zero (show l.length = 0 by omega)]; rfl
   | succ n ih =>
     by_cases hn : l.length = n + 1
     ·rw [sumN_val _ (by omega), ← hn, List.take_length]
     ·rw [sumN, ih (by omega)]
      have : l.getD n 0 = 0 := by rw [List.getD, List.getElem?_eq_none (by omega)]; rfl
      rw [this, Nat.mul_zero, Nat.add_zero]
end Go.Proofs.YtlgencbldbpbdaaGreatDoor.R
namespace Go.Proofs.YtlgencbldbpbdaaGreatDoor.R
theorem cr_w64 {f : Nat → Nat → Nat × Nat} {c0 : Nat} (h : ∀ k c, (f k c).1 < BB) : ∀ k, W64 (crw f c0 k).1
 | 0 => fun x hx => (nomatch hx)
 | k + 1 => by
   rw [crw]
   refine (cr_w64 h k).append fun x hx => ?_
   rcases List.mem_singleton.1 hx with rfl
   exact h _ _
def sbF (a b : List Nat) (k c : Nat) : Nat × Nat := ((a.getD k 0 + BB - b.getD k 0 - c) % BB, if a.getD k 0 < b.getD k 0 + c then 1 else 0)
theorem sb_carry (a b : List Nat) : ∀ k, (crw (sbF a b) 0 k).2 ≤ 1
 | 0 => by simp [crw]
 | k + 1 => by
   rw [crw]
   show (if a.getD k 0 < b.getD k 0 + (crw (sbF a b) 0 k).2 then 1 else 0) ≤ 1
   split <;> omega
theorem sb_alg (M x y c : Nat) (h1 : x < M) (h2 : y < M) (hc : c ≤ 1) : (x + M - y - c) % M + y + c = x + M * (if x < y + c then 1 else 0) := by
 by_cases h : x < y + c
 ·rw [if_pos h, Nat.mul_one, Nat.mod_eq_of_lt (show x + M - y - c < M by omega)]
  omega
 ·rw [if_neg h, Nat.mul_zero, show x + M - y - c = (x - y - c) + M by omega, Nat.add_mod_right, Nat.mod_eq_of_lt (by omega)]
  omega
theorem sb_step {a b : List Nat} (ha : W64 a) (hb : W64 b) (k c : Nat) (hc : c ≤ 1) : (sbF a b k c).1 + b.getD k 0 + c = a.getD k 0 + BB * (sbF a b k c).2 := by
 exact sb_alg BB _ _ c (ha.getD k) (hb.getD k) hc
theorem sum_alg (V Sy Sx P c A y x M c' : Nat) (ih : V + Sy = Sx + P * c) (hs : A + y + c = x + M * c') : V + P * A + (Sy + P * y) = Sx + P * x + P * (M * c') := by
 have e : P * (A + y + c) = P * (x + M * c') := by rw [hs]
 rw [Nat.mul_add, Nat.mul_add, Nat.mul_add] at e
 omega
theorem sub_sum {f : Nat → Nat → Nat × Nat} {x y : Nat → Nat} (h : ∀ k, (f k (crw f 0 k).2).1 + y k + (crw f 0 k).2 = x k + BB * (f k (crw f 0 k).2).2) : ∀ k, val (crw f 0 k).1 + sumN y k = sumN x k + BB ^ k * (crw f 0 k).2
 | 0 => rfl
 | k + 1 => by
   have ih := sub_sum h k
   have hs := h k
   rw [crw, sumN, sumN]
   simp only
   rw [val_append, cr_len]
   simp only [val, Nat.mul_zero, Nat.add_zero]
   rw [Nat.pow_succ, Nat.mul_assoc]
   exact sum_alg _ _ _ _ _ _ _ _ _ _ ih hs
theorem sb_sum {a b : List Nat} (ha : W64 a) (hb : W64 b) (k : Nat) : val (crw (sbF a b) 0 k).1 + sumN (fun i => b.getD i 0) k = sumN (fun i => a.getD i 0) k + BB ^ k * (crw (sbF a b) 0 k).2 :=
 sub_sum (f := sbF a b) (x := fun i => a.getD i 0) (y := fun i => b.getD i 0) (fun k => sb_step ha hb k _ (sb_carry a b k)) k
theorem sb_val {a b : List Nat} (ha : W64 a) (hb : W64 b) (hl : b.length ≤ a.length) (h : val b ≤ val a) : val (crw (sbF a b) 0 a.length).1 = val a - val b := by
 have e := sb_sum ha hb a.length
 rw [sumN_pad _ hl, sumN_pad _ (Nat.le_refl _)] at e
 have hw : W64 (crw (sbF a b) 0 a.length).1 := cr_w64 (fun k c => Nat.mod_lt _ BB_pos) _
 have hlt := val_lt hw
 rw [cr_len] at hlt
 have hc := sb_carry a b a.length
 rcases Nat.eq_zero_or_pos (crw (sbF a b) 0 a.length).2 with h0 | h0
 ·rw [h0, Nat.mul_zero] at e; omega
 ·have h1 : (crw (sbF a b) 0 a.length).2 = 1 := by omega
  rw [h1, Nat.mul_one] at e; omega
def adF (a b : List Nat) (k c : Nat) : Nat × Nat := ((a.getD k 0 + b.getD k 0 + c) % BB, (a.getD k 0 + b.getD k 0 + c) / BB)
theorem ad_carry {a b : List Nat} (ha : W64 a) (hb : W64 b) : ∀ k, (crw (adF a b) 0 k).2 ≤ 1
 | 0 => by simp [crw]
 | k + 1 => by
   have ih := ad_carry ha hb k
   have h1 := ha.getD k
   have h2 := hb.getD k
   rw [crw]
   show (a.getD k 0 + b.getD k 0 + (crw (adF a b) 0 k).2) / BB ≤ 1
   have : (a.getD k 0 + b.getD k 0 + (crw (adF a b) 0 k).2) / BB < 2 := by
    rw [Nat.div_lt_iff_lt_mul BB_pos]; omega
   omega
theorem ad_val {a b : List Nat} (ha : W64 a) (hb : W64 b) (hl : b.length ≤ a.length) : val ((crw (adF a b) 0 a.length).1 ++ [(crw (adF a b) 0 a.length).2]) = val a + val b := by
 have h := cr_val (f := adF a b) (c0 := 0) (t := fun i => a.getD i 0 + b.getD i 0) (n := a.length) (fun k _ => Nat.mod_add_div _ _) a.length (Nat.le_refl _)
 rw [sumN_add, sumN_pad _ (Nat.le_refl _), sumN_pad _ hl, Nat.add_zero] at h
 rw [val_append, cr_len]
 simp only [val, Nat.mul_zero, Nat.add_zero]
 exact h
def tmF (a : List Nat) (m : Nat) (k c : Nat) : Nat × Nat := ((a.getD k 0 * m + c) % BB, (a.getD k 0 * m + c) / BB)
theorem tm_carry {a : List Nat} (ha : W64 a) {m c0 : Nat} (hm : m < BB) (hc : c0 < BB) : ∀ k, (crw (tmF a m) c0 k).2 < BB
 | 0 => hc
 | k + 1 => by
   have ih := tm_carry ha hm hc k
   have h1 := ha.getD k
   rw [crw]
   show (a.getD k 0 * m + (crw (tmF a m) c0 k).2) / BB < BB
   rw [Nat.div_lt_iff_lt_mul BB_pos]
   have : (a.getD k 0 + 1) * m ≤ BB * m := Nat.mul_le_mul_right _ h1
   have h3 : BB * (m + 1) ≤ BB * BB := Nat.mul_le_mul_left _ hm
   rw [Nat.add_mul, Nat.one_mul] at this
   rw [Nat.mul_add, Nat.mul_one] at h3
   omega
theorem tm_val {a : List Nat} {m c0 : Nat} : val ((crw (tmF a m) c0 a.length).1 ++ [(crw (tmF a m) c0 a.length).2]) = val a * m + c0 := by
 have h := cr_val (f := tmF a m) (c0 := c0) (t := fun i => a.getD i 0 * m) (n := a.length) (fun k _ => Nat.mod_add_div _ _) a.length (Nat.le_refl _)
 rw [sumN_mul, sumN_pad _ (Nat.le_refl _)] at h
 rw [val_append, cr_len]
 simp only [val, Nat.mul_zero, Nat.add_zero]
 exact h
end Go.Proofs.YtlgencbldbpbdaaGreatDoor.R
namespace Go.Proofs.YtlgencbldbpbdaaGreatDoor.R
open Go.RowKit Fl
def NA (w : World) (b o : Nat) (l : List Nat) : Prop := b < w.heap.size ∧ ∀ j x : Nat, l[j]? = some x → w.cell? ⟨b, o + j, none⟩ = some (.int .u32 x)
def NL (w : World) (v : Value) (l : List Nat) : Prop :=
 W64 l ∧ ((v = .slice none 0 0 ∧ l = []) ∨ ∃ b o c, v = .slice (some ⟨b, o, none⟩) l.length c ∧ l.length ≤ c ∧ c ≤ maxLen ∧ NA w b o l)
theorem NA.below {w w' : World} {b o : Nat} {l : List Nat} (h : NA w b o l) (hb : Below w.heap.size w w') : NA w' b o l :=
 ⟨Nat.lt_of_lt_of_le h.1 hb.size, fun j x hj => (hb.cell (p := ⟨b, o + j, none⟩) h.1).trans (h.2 j x hj)⟩
theorem NL.below {w w' : World} {v : Value} {l : List Nat} (h : NL w v l) (hb : Below w.heap.size w w') : NL w' v l := by
 obtain ⟨h1, h2⟩ := h
 refine ⟨h1, ?_⟩
 rcases h2 with h2 | ⟨b, o, c, e, h3, h5, h4⟩
 ·exact .inl h2
 ·exact .inr ⟨b, o, c, e, h3, h5, h4.below hb⟩
def NV (w : World) (v : Value) (n : Nat) : Prop := ∃ l, NL w v l ∧ Can l ∧ val l = n
theorem NV.below {w w' : World} {v : Value} {n : Nat} (h : NV w v n) (hb : Below w.heap.size w w') : NV w' v n := by
 obtain ⟨l, h1, h2, h3⟩ := h
 exact ⟨l, h1.below hb, h2, h3⟩
theorem NA.take {w : World} {b o : Nat} {l : List Nat} (h : NA w b o l) (k : Nat) : NA w b o (l.take k) := ⟨h.1, fun j x hj => h.2 j x (by
 rw [List.getElem?_take] at hj
 split at hj
 ·exact hj
 ·cases hj)⟩
theorem NA.drew {w : World} {b o : Nat} {l : List Nat} (h : NA w b o l) (n : Nat) : NA (w.drewN n) b o l := ⟨h.1, fun j x hj => h.2 j x hj⟩
theorem NL.drew {w : World} {v : Value} {l : List Nat} (h : NL w v l) (n : Nat) : NL (w.drewN n) v l := by
 obtain ⟨h1, h2⟩ := h
 refine ⟨h1, ?_⟩
 rcases h2 with h2 | ⟨b, o, c, e, h3, h5, h4⟩
 ·exact .inl h2
 ·exact .inr ⟨b, o, c, e, h3, h5, h4.drew n⟩
theorem NV.drew {w : World} {v : Value} {n : Nat} (h : NV w v n) (k : Nat) : NV (w.drewN k) v n := by
 obtain ⟨l, h1, h2, h3⟩ := h
 exact ⟨l, h1.drew k, h2, h3⟩
theorem NL.form {w : World} {v : Value} {l : List Nat} (h : NL w v l) : ∃ A c, v = .slice A l.length c := by
 rcases h.2 with ⟨e, rfl⟩ | ⟨b, o, c, e, _⟩
 ·exact ⟨none, 0, e⟩
 ·exact ⟨_, c, e⟩
theorem NL.addr {w : World} {v : Value} {l : List Nat} (h : NL w v l) (hl : 0 < l.length) : ∃ b o c, v = .slice (some ⟨b, o, none⟩) l.length c ∧ l.length ≤ c ∧ c ≤ maxLen ∧ NA w b o l := by
 rcases h.2 with ⟨_, rfl⟩ | h
 ·exact absurd hl (by decide)
 ·exact h
set_option maxRecDepth 100000 in
set_option maxHeartbeats 1000000 in
theorem cTrim {w : World} {v : Value} {l : List Nat} (h : NL w v l) : Calls Tryz.prog 229 #[v] w fun e w' => w = w' ∧ ∃ v', e = .returned v' ∧ NL w v' (l.take (tn l l.length)) ∧ ∀ g, blk v' = some g → blk v = some g := by
 obtain ⟨hW, h⟩ := h
 rcases h with ⟨rfl, rfl⟩ | ⟨b, o, c, rfl, hc, hcm, hA⟩
 ·have HR : Hid (NL w (.slice none 0 0) []) := Lib.hid ⟨hW, .inl ⟨rfl, rfl⟩⟩
  clear hW
  go_enter Tryz.func229, Tryz.ntmps229
  go_wp2
  refine wp_loop_rounds 1 ?_
  rw [rounds_succ]
  go_wp2
  go_ret
  exact ⟨rfl, _, rfl, HR.out, fun g h => h⟩
 ·have H := Lib.hid hA
  have HW := Lib.hid hW
  have HC := Lib.hid hc
  have HM := Lib.hid hcm
  have hm : (c : Int) ≤ 9223372036854775807 := by have := hcm; unfold maxLen at this; omega
  clear hA hW hc hcm
  go_enter Tryz.func229, Tryz.ntmps229
  go_wp2_with fail
  go_loopw [3] (fun i wx => ∃ k : Nat, Hid (k ≤ l.length) ∧ i = .int .i64 k ∧ Hid (tn l k = tn l l.length) ∧ wx = w) (fun i _ => (intOf i).toNat)
  case atStart => exact ⟨l.length, Lib.hid (Nat.le_refl _), rfl, Lib.hid rfl, rfl⟩
  case round =>
   obtain ⟨k, hk, rfl, ht, rfl⟩ := hrel
   rcases k with _ | m
   ·have HR : Hid (NL wr (.slice (some ⟨b, o, none⟩) 0 c) (l.take (tn l l.length))) := Lib.hid (by
     rw [← ht.out]
     exact ⟨fun x hx => (nomatch hx), .inr ⟨b, o, c, rfl, Nat.zero_le _, HM.out, ⟨H.out.1, fun j x hj => (nomatch hj)⟩⟩⟩)
    go_wp2
    go_ret
    exact ⟨rfl, _, rfl, HR.out, fun g h => h⟩
   ·obtain ⟨x, hx⟩ : ∃ x, l[m]? = some x := ⟨l[m]'(by have := hk.out; omega), List.getElem?_eq_getElem _⟩
    have kc := H.out.2 m x hx
    have hmc : (m : Int) + 1 ≤ (c : Int) := by have := hk.out; have := HC.out; omega
    have hml : (m : Int) + 1 ≤ (l.length : Int) := by have := hk.out; omega
    have hm2 : (m : Int) ≤ 9223372036854775806 := by have := hk.out; have := HC.out; have := HM.out; unfold maxLen at this; omega
    have hgd : l.getD m 0 = x := by rw [List.getD, hx]; rfl
    by_cases h0 : x = 0
    ·subst h0
     have T2 : Hid (tn l m = tn l l.length) := Lib.hid (by rw [← ht.out, tn, if_pos hgd])
     clear hx hgd
     go_wp2
     go_roundw
     case rel => exact ⟨m, Lib.hid (by have := hk.out; omega), by go_num, T2, trivial⟩
     case measure => simp [intOf]
    ·have HR : Hid (NL wr (.slice (some ⟨b, o, none⟩) (m + 1) c) (l.take (tn l l.length))) := Lib.hid (by
      rw [← ht.out, tn, if_neg (by rw [hgd]; exact h0)]
      have e : (l.take (m + 1)).length = m + 1 := by rw [List.length_take]; have := hk.out; omega
      exact ⟨HW.out.take _, .inr ⟨b, o, c, by rw [e], by rw [e]; have := hk.out; have := HC.out; omega, HM.out, H.out.take _⟩⟩)
     have h1 : ¬ ((x : Int) = 0) := by omega
     clear hx hgd h0
     go_wp2
     go_ret
     exact ⟨rfl, _, rfl, HR.out, fun g h => h⟩
end Go.Proofs.YtlgencbldbpbdaaGreatDoor.R
namespace Go.Proofs.YtlgencbldbpbdaaGreatDoor.R
open Go.RowKit Fl
def uv (x : Nat) : Value := .int .u32 (x : Int)
def OU (w : World) (B : Nat) (v : Value) (l : List Nat) : Prop := w.ownsRow B 47 1 v l.length (l.map uv)
theorem info106 : (Tryz.prog.info? 47).map (fun i => (i.zero, i.size, i.bytes)) = some (some (.int .u32 0), 1, 4) := by kernel_rfl
theorem OU.nl {w : World} {B : Nat} {v : Value} {l : List Nat} (h : OU w B v l) (hW : W64 l) : NL w v l := by
 refine ⟨hW, ?_⟩
 obtain ⟨h1, h2⟩ := h
 rcases h2 with ⟨e, h2⟩ | ⟨g, cap, cur, rfl, hb, hg, h3, h4, h5, h6⟩
 ·exact .inl ⟨e, List.eq_nil_of_length_eq_zero h2⟩
 ·refine .inr ⟨g, 0, cap, rfl, h3, h4, (Array.getElem?_eq_some_iff.1 hg).1, fun j x hj => ?_⟩
  have hlt : j < l.length := (List.getElem?_eq_some_iff.1 hj).1
  have : (cur.toList.take (l.length * 1))[j]? = some (uv x) := by rw [h6, List.getElem?_map, hj]; rfl
  rw [List.getElem?_take, if_pos (by omega)] at this
  simp only [World.cell?, hg, Nat.zero_add]
  simpa [uv] using this
theorem OU.blk {w : World} {B : Nat} {v : Value} {l : List Nat} (h : OU w B v l) {g : Nat} (hg : blk v = some g) : B ≤ g := by
 rcases h.2 with ⟨e, _⟩ | ⟨g', cap, cur, rfl, hb, _⟩
 ·rw [e] at hg; cases hg
 ·cases hg; exact hb
theorem OU.made (wx : World) {p q : Nat} (h : p ≤ q) (hq : q ≤ maxLen) {B : Nat} (hB : B ≤ wx.heap.size) : OU (wx.alloc (.cells (madeCells #[.int .u32 0] q) 47)) B (.slice (some ⟨wx.heap.size, 0, none⟩) p q) (List.replicate p 0) := by
 have hm : (madeCells #[Value.int .u32 0] q).toList = List.replicate q (uv 0) := by
  unfold madeCells
  apply List.ext_getElem
  ·simp
  ·intro i h1 h2; simp [uv, Nat.mod_one]
 refine ⟨by simp, .inr ⟨wx.heap.size, q, _, by rw [List.length_replicate], hB, by show (wx.heap.push _)[wx.heap.size]? = _; simp; rfl, by rw [List.length_replicate]; exact h, hq, ?_, ?_⟩⟩
 ·rw [← Array.length_toList, hm, List.length_replicate, Nat.mul_one]
 ·rw [hm, List.length_replicate, Nat.mul_one, List.take_replicate, Nat.min_eq_left h, List.map_replicate]
theorem run_mk (p q : Nat) (h : p ≤ q) (hq : q ≤ 1000000) (wx : World) : (Instr.makeSlice 233 (.int .i64 p) (.int .i64 q)).run Tryz.prog wx = .ok (.slice (some ⟨wx.heap.size, 0, none⟩) p q) (wx.alloc (.cells (madeCells #[.int .u32 0] q) 47)) := by
 obtain ⟨i0, hi, hz0, hz1, hz2⟩ := info_parts info106
 have := run_make (P := Tryz.prog) wx 233 47 i0 (.int .u32 0) Tryz.underlying233 hi hz0 .i64 .i64 p q (by omega) (by omega) (by rw [hz2]; omega) (by omega)
 rw [hz1] at this
 simp only [Int.toNat_natCast, Nat.mul_one] at this
 exact this
theorem wpList_app {w0 : World} {ops : Array Oper} {rest : List Oper} {o : Oper} {a : Act} {Q : Exit → Act → World → Prop} (hgd : o.guard = none) (s x : Operand)
  (ho : o.op = .call { callee := .builtin .append, args := #[s, x], argTypes := #[233, 233] }) (B : Nat) (v : Value) (l : List Nat) (d : Nat) (hs : a.eval s = v) (hown : OU w0 B v l) (hx : a.eval x = .slice (some ⟨w0.heap.size, 0, none⟩) 1 1) (hl : l.length ≤ 1000000) (hB : B ≤ w0.heap.size)
  (h : ∀ v' w', OU w' B v' (l ++ [d]) → (∀ wB, B ≤ wB.heap.size → Below B wB w0 → Below B wB w') → w0.heap.size ≤ w'.heap.size → wpList Tryz.prog ops Q rest (a.put o.dst v') w') : wpList Tryz.prog ops Q (o :: rest) a (w0.alloc (.cells #[.int .u32 (d : Int)] 47)) := by
 obtain ⟨i0, hi, hz0, hz1, hz2⟩ := info_parts info106
 refine wpList_append_own _ hgd s x 233 ho B 47 i0 (.int .u32 0) 1 4 Tryz.underlying233 hi hz0 hz1 hz2 rfl (by decide) v l.length (l.map uv) hs (hown.alloc _) ⟨w0.heap.size, 0, none⟩ 1 1 [uv d] hx rfl ?_ ?_ (by unfold maxLen; omega) (by omega) (by simp; omega) ?_
 ·intro j u hj
  match j, hj with
  | 0, hj => simp at hj; subst hj; simp [Addr.add, uv]
 ·intro u hu; simp at hu; subst hu; rfl
 ·intro v' w' own grow _
  refine h v' w' ?_ ?_ ?_
  ·unfold OU
   rw [List.length_append, List.map_append]
   exact own
  ·intro wB hb1 hb2
   refine (hb2.alloc hB _).grown grow (by simp; omega) fun k hk => ?_
   rcases hown.2 with ⟨e, _⟩ | ⟨g, _, _, e, hg, _⟩
   ·rw [e] at hk; cases hk
   ·rw [e] at hk; cases hk; exact hg
  ·have := grow.size; simp at this; omega
end Go.Proofs.YtlgencbldbpbdaaGreatDoor.R
namespace Go.Proofs.YtlgencbldbpbdaaGreatDoor.R
open Go.RowKit Fl
theorem len_small {l : List Nat} (h : W64 l) (hc : Can l) {n : Nat} (hn : val l < BB ^ n) : l.length ≤ n := by
 rcases Nat.lt_or_ge n l.length with c | c
 ·exfalso
  have h1 := val_ge hc (by omega)
  have h2 : BB ^ n ≤ BB ^ (l.length - 1) := Nat.pow_le_pow_right BB_pos (by omega)
  omega
 ·exact c
theorem BB_pow (m : Nat) : BB ^ m = 2 ^ (32 * m) := by rw [Nat.pow_mul]; rfl
theorem u32_wrap (n : Nat) : IntKind.u32.wrap (n : Int) = ((n % BB : Nat) : Int) := by
 have e : IntKind.u32.wrap (n : Int) = (n : Int) % 4294967296 := rfl
 rw [e]; unfold BB; omega
theorem mul_small {x m c : Nat} (hx : x < BB) (hm : m < BB) (hc : c < BB) : x * m + c ≤ 18446744073709551615 := by
 unfold BB at *
 have h1 : x * m ≤ 4294967295 * 4294967295 := Nat.mul_le_mul (by omega) (by omega)
 omega
theorem u64_small {n : Nat} (h : n < BB) : IntKind.u64.wrap (n : Int) = (n : Int) := by
 unfold BB at h
 rw [IntKind.wrap_u64]; omega
set_option maxRecDepth 100000 in
set_option maxHeartbeats 2000000 in
theorem cTimesL {w : World} {v : Value} {a : List Nat} {m c0 : Nat} (na : NL w v a) (hm : m < BB) (hc0 : c0 < BB) (hl : a.length ≤ 10000) :
  Calls Tryz.prog 228 #[v, .int .u32 m, .int .u32 c0] w fun e w' => Below w.heap.size w w' ∧ ∃ v', e = .returned v' ∧ NV w' v' (val a * m + c0) ∧ ∀ g, blk v' = some g → w.heap.size ≤ g := by
 have la2 : (a.length : Int) ≤ 10000 := by omega
 have HW := Lib.hid na.1
 have HV := Lib.hid (And.intro hm hc0)
 have NA' := Lib.hid na
 have V1 := Lib.hid (tm_val (a := a) (m := m) (c0 := c0))
 obtain ⟨A, ac, rfl⟩ := na.form
 have em : madeCells #[Value.int .u32 0] 0 = #[] := by unfold madeCells; simp
 have O0 := OU.made w (p := 0) (q := 0) (by omega) (by unfold maxLen; omega) (B := w.heap.size) (Nat.le_refl _)
 rw [em] at O0
 have O0 := Lib.hid O0
 have B0 : Hid (Below w.heap.size w (w.alloc (.cells #[] 47))) := Lib.hid ((Below.refl _ _).alloc (Nat.le_refl _) _)
 have w0 := u64_small hc0
 have wm := u64_small hm
 clear na hm hc0 hl em
 go_enter Tryz.func228, Tryz.ntmps228
 go_upto_region 2 with fail
 generalize w.alloc (.cells #[] 47) = w1 at *
 generalize (Value.slice (some ⟨w.heap.size, 0, none⟩) 0 0) = v1 at *
 go_wp2_with fail
 go_loopw [7, 8, 9] (fun v c i wx => ∃ k : Nat, k ≤ a.length ∧ i = .int .i64 k ∧ c = .int .u64 ((crw (tmF a m) c0 k).2 : Nat) ∧ Hid (OU wx w.heap.size v (crw (tmF a m) c0 k).1) ∧ Hid (Below w.heap.size w wx)) (fun _ _ i _ => a.length - (intOf i).toNat)
 case atStart => exact ⟨0, Nat.zero_le _, rfl, rfl, O0, B0⟩
 case round =>
  obtain ⟨k, hk, rfl, rfl, hO, hB⟩ := hrel
  by_cases hlt : k < a.length
  ·have hki : (k : Int) < (a.length : Int) := by omega
   obtain ⟨b1, o1, c1, e1, q1, q2, hA⟩ := (NA'.out.below hB.out).addr (by omega)
   cases e1
   obtain ⟨x, hx⟩ : ∃ x, a[k]? = some x := ⟨a[k], List.getElem?_eq_getElem hlt⟩
   have kc := hA.2 k x hx
   have hgd : a.getD k 0 = x := by rw [List.getD, hx]; rfl
   have hxB : x < BB := HW.out x (List.mem_of_getElem? hx)
   have hcl := tm_carry HW.out HV.out.1 HV.out.2 k
   have HLT := Lib.hid hlt
   have L1 : Hid ((crw (tmF a m) c0 k).1.length ≤ 1000000) := Lib.hid (by rw [cr_len]; omega)
   have E1 : Hid ((crw (tmF a m) c0 (k + 1)).1 = (crw (tmF a m) c0 k).1 ++ [(x * m + (crw (tmF a m) c0 k).2) % BB]) := Lib.hid (by rw [crw, tmF, hgd])
   have E2 : Hid ((crw (tmF a m) c0 (k + 1)).2 = (x * m + (crw (tmF a m) c0 k).2) / BB) := Lib.hid (by rw [crw, tmF, hgd])
   obtain ⟨lo, hlo⟩ : ∃ lo, lo = (crw (tmF a m) c0 k).2 := ⟨_, rfl⟩
   rw [← hlo] at hcl E1 E2 ⊢
   have hp := mul_small hxB HV.out.1 hcl
   obtain ⟨p, hpp⟩ : ∃ p, p = x * m + lo := ⟨_, rfl⟩
   rw [← hpp] at hp E1 E2
   have w1 : IntKind.u64.wrap ((x : Int) * (m : Int)) = ((x * m : Nat) : Int) := by
    rw [show (x : Int) * (m : Int) = ((x * m : Nat) : Int) from by push_cast; rfl, u64_wrap, Nat.mod_eq_of_lt (by unfold Go.Proofs.YtlgencbldbpbdaaGreatDoor.BB; omega)]
   have w2 : IntKind.u64.wrap ((lo : Int) + (x : Int) * (m : Int)) = (p : Int) := by
    rw [show (lo : Int) + (x : Int) * (m : Int) = (p : Int) from by rw [hpp]; push_cast; omega, u64_wrap, Nat.mod_eq_of_lt (by unfold Go.Proofs.YtlgencbldbpbdaaGreatDoor.BB; omega)]
   have w3 := u32_wrap p
   have wx := u64_small hxB
   obtain ⟨d, hd⟩ : ∃ d, d = p % BB := ⟨_, rfl⟩
   obtain ⟨c2, hc2⟩ : ∃ c2, c2 = p / BB := ⟨_, rfl⟩
   rw [← hd] at E1 w3
   rw [← hc2] at E2
   have w4 : (p : Int) / 4294967296 = (c2 : Int) := by rw [hc2]; unfold BB; omega
   clear hx hgd hcl hlo hlt hd hc2 hA q1 q2 hxB hpp hp
   go_wp2_with (at_builtin; refine wpList_app rfl (.tmp 29) (.tmp 32) rfl w.heap.size _ _ _ rfl hO.out rfl L1.out hB.out.size ?_; intro v' w' own' bel' siz'; replace own' := Lib.hid own'; replace bel' := Lib.hid bel'; clear siz')
   go_roundw
   case rel => exact ⟨k + 1, by have := HLT.out; omega, by go_num, by rw [E2.out], Lib.hid (by rw [E1.out]; exact own'.out), Lib.hid (bel'.out w (Nat.le_refl _) hB.out)⟩
   case measure => have := HLT.out; simp [intOf]; omega
  ·have hki : ¬ (k : Int) < (a.length : Int) := by omega
   have hkl : k = a.length := by omega
   subst hkl
   have L1 : Hid ((crw (tmF a m) c0 a.length).1.length ≤ 1000000) := Lib.hid (by rw [cr_len]; omega)
   have hcl := tm_carry HW.out HV.out.1 HV.out.2 a.length
   have W1 : Hid (W64 ((crw (tmF a m) c0 a.length).1 ++ [(crw (tmF a m) c0 a.length).2])) := Lib.hid ((cr_w64 (fun k c => Nat.mod_lt _ BB_pos) _).append fun z hz => by
    rw [List.mem_singleton.1 hz]
    exact hcl)
   have w3 : IntKind.u32.wrap (((crw (tmF a m) c0 a.length).2 : Nat) : Int) = (((crw (tmF a m) c0 a.length).2 : Nat) : Int) := by rw [u32_wrap, Nat.mod_eq_of_lt hcl]
   clear hlt hcl
   go_wp2_with (at_builtin; refine wpList_app rfl (.tmp 36) (.tmp 39) rfl w.heap.size _ _ _ rfl hO.out rfl L1.out hB.out.size ?_; intro v' w' own' bel' siz'; replace own' := Lib.hid own'; replace bel' := Lib.hid bel'; clear siz')
   refine (cTrim (own'.out.nl W1.out)).mono ?_
   rintro e w2 ⟨rfl, v2, rfl, hv2, hg2⟩
   have HG2 := Lib.hid (fun g hg => own'.out.blk (hg2 g hg))
   have R2 : Hid (NV w' v2 (val a * m + c0)) := Lib.hid ⟨_, hv2, tn_can _ (Nat.le_refl _), by rw [tn_val _ (Nat.le_refl _), List.take_length, V1.out]⟩
   clear hv2 hg2
   go_wp2_with fail
   go_ret
   exact ⟨bel'.out w (Nat.le_refl _) hB.out, _, rfl, R2.out, HG2.out⟩
theorem cTimes {w : World} {v : Value} {x m c L : Nat} (hv : NV w v x) (hL : L ≤ 10000) (hx : x < BB ^ L) (hm : m < BB) (hc : c < BB) :
  Calls Tryz.prog 228 #[v, .int .u32 m, .int .u32 c] w fun e w' => Below w.heap.size w w' ∧ ∃ v', e = .returned v' ∧ NV w' v' (x * m + c) ∧ ∀ g, blk v' = some g → w.heap.size ≤ g := by
 obtain ⟨a, na, ca, rfl⟩ := hv
 exact cTimesL na hm hc (Nat.le_trans (len_small na.1 ca hx) hL)
end Go.Proofs.YtlgencbldbpbdaaGreatDoor.R
namespace Go.Proofs.YtlgencbldbpbdaaGreatDoor.R
open Go.RowKit Fl
theorem ad_valN {a b : List Nat} {n : Nat} (la : a.length ≤ n) (lb : b.length ≤ n) : val ((crw (adF a b) 0 n).1 ++ [(crw (adF a b) 0 n).2]) = val a + val b := by
 have h := cr_val (f := adF a b) (c0 := 0) (t := fun i => a.getD i 0 + b.getD i 0) (n := n) (fun k _ => Nat.mod_add_div _ _) n (Nat.le_refl _)
 rw [sumN_add, sumN_pad _ la, sumN_pad _ lb, Nat.add_zero] at h
 rw [val_append, cr_len]
 simp only [val, Nat.mul_zero, Nat.add_zero]
 exact h
set_option maxRecDepth 100000 in
set_option maxHeartbeats 4000000 in
theorem cPlusL {w : World} {v u : Value} {a b : List Nat} (na : NL w v a) (nb : NL w u b) (hla : a.length ≤ 10001) (hlb : b.length ≤ 10001) :
  Calls Tryz.prog 276 #[v, u] w fun e w' => Below w.heap.size w w' ∧ ∃ v', e = .returned v' ∧ NV w' v' (val a + val b) := by
 have la2 : (a.length : Int) ≤ 10001 := by omega
 have lb2 : (b.length : Int) ≤ 10001 := by omega
 have HW := Lib.hid (And.intro na.1 nb.1)
 have NA1 := Lib.hid na
 have NA2 := Lib.hid nb
 obtain ⟨n, hn⟩ : ∃ n, n = max a.length b.length := ⟨_, rfl⟩
 have HN := Lib.hid hn
 have HL := Lib.hid (show n ≤ 10001 by omega)
 have V1 := Lib.hid (ad_valN (a := a) (b := b) (n := n) (by omega) (by omega))
 obtain ⟨A, ac, rfl⟩ := na.form
 obtain ⟨A', bc, rfl⟩ := nb.form
 have em : madeCells #[Value.int .u32 0] 0 = #[] := by unfold madeCells; simp
 have O0 := OU.made w (p := 0) (q := 0) (by omega) (by unfold maxLen; omega) (B := w.heap.size) (Nat.le_refl _)
 rw [em] at O0
 have O0 := Lib.hid O0
 have B0 : Hid (Below w.heap.size w (w.alloc (.cells #[] 47))) := Lib.hid ((Below.refl _ _).alloc (Nat.le_refl _) _)
 clear na nb hla hlb em hn
 go_enter Tryz.func276, Tryz.ntmps276
 go_upto_region 2 with fail
 generalize w.alloc (.cells #[] 47) = w1 at *
 generalize (Value.slice (some ⟨w.heap.size, 0, none⟩) 0 0) = v1 at *
 go_wp2_with fail
 go_loopw [5, 6, 7] (fun v c i wx => ∃ k : Nat, k ≤ n ∧ i = .int .i64 k ∧ c = .int .u64 ((crw (adF a b) 0 k).2 : Nat) ∧ Hid (OU wx w.heap.size v (crw (adF a b) 0 k).1) ∧ Hid (Below w.heap.size w wx)) (fun _ _ i _ => n - (intOf i).toNat)
 case atStart => exact ⟨0, Nat.zero_le _, rfl, rfl, O0, B0⟩
 case round =>
  obtain ⟨k, hk, rfl, rfl, hO, hB⟩ := hrel
  have hkm : (k : Int) ≤ 10001 := by have := HL.out; omega
  by_cases hlt : k < n
  ·have HK : Hid (k + 1 ≤ n) := Lib.hid hlt
   by_cases la : k < a.length
   ·by_cases lb : k < b.length
    ·clear hlt hk
     have hka : (k : Int) < (a.length : Int) := by omega
     obtain ⟨b1, o1, c1, e1, q1, q2, hA⟩ := (NA1.out.below hB.out).addr (by omega)
     cases e1
     obtain ⟨x, hx⟩ : ∃ x, a[k]? = some x := ⟨a[k], List.getElem?_eq_getElem la⟩
     have kx := hA.2 k x hx
     have gx : a.getD k 0 = x := by rw [List.getD, hx]; rfl
     have xb : x < BB := HW.out.1 x (List.mem_of_getElem? hx)
     have xi : (x : Int) ≤ 4294967295 := by unfold BB at xb; omega
     have wx := u64_small xb
     have hkb : (k : Int) < (b.length : Int) := by omega
     obtain ⟨b2, o2, c2, e2, r1, r2, hA'⟩ := (NA2.out.below hB.out).addr (by omega)
     cases e2
     obtain ⟨y, hy⟩ : ∃ y, b[k]? = some y := ⟨b[k], List.getElem?_eq_getElem lb⟩
     have ky := hA'.2 k y hy
     have gy : b.getD k 0 = y := by rw [List.getD, hy]; rfl
     have yb : y < BB := HW.out.2 y (List.mem_of_getElem? hy)
     have yi : (y : Int) ≤ 4294967295 := by unfold BB at yb; omega
     have wy := u64_small yb
     have E1 : Hid ((crw (adF a b) 0 (k + 1)).1 = (crw (adF a b) 0 k).1 ++ [(x + y + (crw (adF a b) 0 k).2) % BB]) := Lib.hid (by rw [crw, adF, gx, gy])
     have E2 : Hid ((crw (adF a b) 0 (k + 1)).2 = (x + y + (crw (adF a b) 0 k).2) / BB) := Lib.hid (by rw [crw, adF, gx, gy])
     have hcl := ad_carry HW.out.1 HW.out.2 k
     have L1 : Hid ((crw (adF a b) 0 k).1.length ≤ 1000000) := Lib.hid (by rw [cr_len]; have := HL.out; omega)
     obtain ⟨lo, hlo⟩ : ∃ lo, lo = (crw (adF a b) 0 k).2 := ⟨_, rfl⟩
     rw [← hlo] at hcl E1 E2 ⊢
     have hci : (lo : Int) ≤ 1 := by omega
     obtain ⟨d, hd⟩ : ∃ d, d = (x + y + lo) % BB := ⟨_, rfl⟩
     obtain ⟨c3, hc3⟩ : ∃ c3, c3 = (x + y + lo) / BB := ⟨_, rfl⟩
     rw [← hd] at E1
     rw [← hc3] at E2
     have w3 : IntKind.u32.wrap ((lo : Int) + (x : Int) + (y : Int)) = (d : Int) := by rw [show (lo : Int) + (x : Int) + (y : Int) = ((x + y + lo : Nat) : Int) from by push_cast; omega, u32_wrap, hd]
     have w4 : ((lo : Int) + (x : Int) + (y : Int)) / 4294967296 = (c3 : Int) := by rw [hc3]; unfold BB; omega
     clear gx gy hcl hlo hd hc3 hx hA q1 q2 xb hy hA' r1 r2 yb la lb
     go_wp2_with (at_builtin; refine wpList_app rfl (.tmp 43) (.tmp 46) rfl w.heap.size _ _ _ rfl hO.out rfl L1.out hB.out.size ?_; intro v' w' own' bel' siz'; replace own' := Lib.hid own'; replace bel' := Lib.hid bel'; clear siz')
     go_roundw
     case rel => exact ⟨k + 1, HK.out, by go_num, by rw [E2.out], Lib.hid (by rw [E1.out]; exact own'.out), Lib.hid (bel'.out w (Nat.le_refl _) hB.out)⟩
     case measure => have := HK.out; simp [intOf]; omega
    ·clear hlt hk
     have hka : (k : Int) < (a.length : Int) := by omega
     obtain ⟨b1, o1, c1, e1, q1, q2, hA⟩ := (NA1.out.below hB.out).addr (by omega)
     cases e1
     obtain ⟨x, hx⟩ : ∃ x, a[k]? = some x := ⟨a[k], List.getElem?_eq_getElem la⟩
     have kx := hA.2 k x hx
     have gx : a.getD k 0 = x := by rw [List.getD, hx]; rfl
     have xb : x < BB := HW.out.1 x (List.mem_of_getElem? hx)
     have xi : (x : Int) ≤ 4294967295 := by unfold BB at xb; omega
     have wx := u64_small xb
     have hkb : ¬ (k : Int) < (b.length : Int) := by omega
     have gy : b.getD k 0 = 0 := by rw [List.getD, List.getElem?_eq_none (by omega)]; rfl
     have E1 : Hid ((crw (adF a b) 0 (k + 1)).1 = (crw (adF a b) 0 k).1 ++ [(x + 0 + (crw (adF a b) 0 k).2) % BB]) := Lib.hid (by rw [crw, adF, gx, gy])
     have E2 : Hid ((crw (adF a b) 0 (k + 1)).2 = (x + 0 + (crw (adF a b) 0 k).2) / BB) := Lib.hid (by rw [crw, adF, gx, gy])
     have hcl := ad_carry HW.out.1 HW.out.2 k
     have L1 : Hid ((crw (adF a b) 0 k).1.length ≤ 1000000) := Lib.hid (by rw [cr_len]; have := HL.out; omega)
     obtain ⟨lo, hlo⟩ : ∃ lo, lo = (crw (adF a b) 0 k).2 := ⟨_, rfl⟩
     rw [← hlo] at hcl E1 E2 ⊢
     have hci : (lo : Int) ≤ 1 := by omega
     obtain ⟨d, hd⟩ : ∃ d, d = (x + 0 + lo) % BB := ⟨_, rfl⟩
     obtain ⟨c3, hc3⟩ : ∃ c3, c3 = (x + 0 + lo) / BB := ⟨_, rfl⟩
     rw [← hd] at E1
     rw [← hc3] at E2
     have w3 : IntKind.u32.wrap ((lo : Int) + (x : Int)) = (d : Int) := by rw [show (lo : Int) + (x : Int) = ((x + 0 + lo : Nat) : Int) from by push_cast; omega, u32_wrap, hd]
     have w4 : ((lo : Int) + (x : Int)) / 4294967296 = (c3 : Int) := by rw [hc3]; unfold BB; omega
     clear gx gy hcl hlo hd hc3 hx hA q1 q2 xb la lb
     go_wp2_with (at_builtin; refine wpList_app rfl (.tmp 43) (.tmp 46) rfl w.heap.size _ _ _ rfl hO.out rfl L1.out hB.out.size ?_; intro v' w' own' bel' siz'; replace own' := Lib.hid own'; replace bel' := Lib.hid bel'; clear siz')
     go_roundw
     case rel => exact ⟨k + 1, HK.out, by go_num, by rw [E2.out], Lib.hid (by rw [E1.out]; exact own'.out), Lib.hid (bel'.out w (Nat.le_refl _) hB.out)⟩
     case measure => have := HK.out; simp [intOf]; omega
   ·have lb : k < b.length := by have := HN.out; omega
    clear hlt hk
    have hka : ¬ (k : Int) < (a.length : Int) := by omega
    have gx : a.getD k 0 = 0 := by rw [List.getD, List.getElem?_eq_none (by omega)]; rfl
    have hkb : (k : Int) < (b.length : Int) := by omega
    obtain ⟨b2, o2, c2, e2, r1, r2, hA'⟩ := (NA2.out.below hB.out).addr (by omega)
    cases e2
    obtain ⟨y, hy⟩ : ∃ y, b[k]? = some y := ⟨b[k], List.getElem?_eq_getElem lb⟩
    have ky := hA'.2 k y hy
    have gy : b.getD k 0 = y := by rw [List.getD, hy]; rfl
    have yb : y < BB := HW.out.2 y (List.mem_of_getElem? hy)
    have yi : (y : Int) ≤ 4294967295 := by unfold BB at yb; omega
    have wy := u64_small yb
    have E1 : Hid ((crw (adF a b) 0 (k + 1)).1 = (crw (adF a b) 0 k).1 ++ [(0 + y + (crw (adF a b) 0 k).2) % BB]) := Lib.hid (by rw [crw, adF, gx, gy])
    have E2 : Hid ((crw (adF a b) 0 (k + 1)).2 = (0 + y + (crw (adF a b) 0 k).2) / BB) := Lib.hid (by rw [crw, adF, gx, gy])
    have hcl := ad_carry HW.out.1 HW.out.2 k
    have L1 : Hid ((crw (adF a b) 0 k).1.length ≤ 1000000) := Lib.hid (by rw [cr_len]; have := HL.out; omega)
    obtain ⟨lo, hlo⟩ : ∃ lo, lo = (crw (adF a b) 0 k).2 := ⟨_, rfl⟩
    rw [← hlo] at hcl E1 E2 ⊢
    have hci : (lo : Int) ≤ 1 := by omega
    obtain ⟨d, hd⟩ : ∃ d, d = (0 + y + lo) % BB := ⟨_, rfl⟩
    obtain ⟨c3, hc3⟩ : ∃ c3, c3 = (0 + y + lo) / BB := ⟨_, rfl⟩
    rw [← hd] at E1
    rw [← hc3] at E2
    have w3 : IntKind.u32.wrap ((lo : Int) + (y : Int)) = (d : Int) := by rw [show (lo : Int) + (y : Int) = ((0 + y + lo : Nat) : Int) from by push_cast; omega, u32_wrap, hd]
    have w4 : ((lo : Int) + (y : Int)) / 4294967296 = (c3 : Int) := by rw [hc3]; unfold BB; omega
    clear gx gy hcl hlo hd hc3 hy hA' r1 r2 yb la lb
    go_wp2_with (at_builtin; refine wpList_app rfl (.tmp 43) (.tmp 46) rfl w.heap.size _ _ _ rfl hO.out rfl L1.out hB.out.size ?_; intro v' w' own' bel' siz'; replace own' := Lib.hid own'; replace bel' := Lib.hid bel'; clear siz')
    go_roundw
    case rel => exact ⟨k + 1, HK.out, by go_num, by rw [E2.out], Lib.hid (by rw [E1.out]; exact own'.out), Lib.hid (bel'.out w (Nat.le_refl _) hB.out)⟩
    case measure => have := HK.out; simp [intOf]; omega
  ·have hkn : k = n := by omega
   subst hkn
   have hka : ¬ (k : Int) < (a.length : Int) := by have := HN.out; omega
   have hkb : ¬ (k : Int) < (b.length : Int) := by have := HN.out; omega
   have L1 : Hid ((crw (adF a b) 0 k).1.length ≤ 1000000) := Lib.hid (by rw [cr_len]; have := HL.out; omega)
   have hcl := ad_carry HW.out.1 HW.out.2 k
   have hcB : (crw (adF a b) 0 k).2 < BB := by unfold BB; omega
   have W1 : Hid (W64 ((crw (adF a b) 0 k).1 ++ [(crw (adF a b) 0 k).2])) := Lib.hid ((cr_w64 (fun k c => Nat.mod_lt _ BB_pos) _).append fun z hz => by
    rw [List.mem_singleton.1 hz]
    exact hcB)
   have w3 : IntKind.u32.wrap (((crw (adF a b) 0 k).2 : Nat) : Int) = (((crw (adF a b) 0 k).2 : Nat) : Int) := by rw [u32_wrap, Nat.mod_eq_of_lt hcB]
   clear hlt hcl hcB hk
   go_wp2_with (at_builtin; refine wpList_app rfl (.tmp 50) (.tmp 53) rfl w.heap.size _ _ _ rfl hO.out rfl L1.out hB.out.size ?_; intro v' w' own' bel' siz'; replace own' := Lib.hid own'; replace bel' := Lib.hid bel'; clear siz')
   refine (cTrim (own'.out.nl W1.out)).mono ?_
   rintro e w2 ⟨rfl, v2, rfl, hv2, hg2⟩
   have R2 : Hid (NV w' v2 (val a + val b)) := Lib.hid ⟨_, hv2, tn_can _ (Nat.le_refl _), by rw [tn_val _ (Nat.le_refl _), List.take_length, V1.out]⟩
   clear hv2 hg2
   go_wp2_with fail
   go_ret
   exact ⟨bel'.out w (Nat.le_refl _) hB.out, _, rfl, R2.out⟩
theorem cPlus {w : World} {v u : Value} {x y L : Nat} (hv : NV w v x) (hu : NV w u y) (hL : L ≤ 10000) (hx : x < BB ^ L) (hy : y < BB ^ L) :
  Calls Tryz.prog 276 #[v, u] w fun e w' => Below w.heap.size w w' ∧ ∃ v', e = .returned v' ∧ NV w' v' (x + y) := by
 obtain ⟨a, na, ca, rfl⟩ := hv
 obtain ⟨b, nb, cb, rfl⟩ := hu
 exact cPlusL na nb (by have := len_small na.1 ca hx; omega) (by have := len_small nb.1 cb hy; omega)
end Go.Proofs.YtlgencbldbpbdaaGreatDoor.R
