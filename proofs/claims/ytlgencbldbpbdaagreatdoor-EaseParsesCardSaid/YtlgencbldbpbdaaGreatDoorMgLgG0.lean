/- Sub, Add, Times: plain laws. Sub of whole numbers. -/
import Derived.Test.YtlgencbldbpbdaaGreatDoorMgLgE
import Derived.Test.YtlgencbldbpbdaaGreatDoorAcc
namespace Go.Proofs.YtlgencbldbpbdaaGreatDoor
open Go.RowKit Fl
theorem cr_w64 {f : Nat → Nat → Nat × Nat} {c0 : Nat} (h : ∀ k c, (f k c).1 < BB) : ∀ k, W64 (crw f c0 k).1
 | 0 => fun x hx => (nomatch hx)
 | k + 1 => by
   rw [crw]
   refine (cr_w64 h k).append fun x hx => ?_
   rcases List.mem_singleton.1 hx with rfl
   exact h _ _
def sbF (a b : List Nat) (k c : Nat) : Nat × Nat := ((a.getD k 0 + BB - b.getD k 0 - c) % BB, if a.getD k 0 < b.getD k 0 + c then 1 else 0)
theorem sb_carry (a b : List Nat) : ∀ k, (crw (sbF a b) 0 k).2 ≤ 1
 | 0 => by simp [crw]
 | k + 1 => by
   rw [crw]
   show (if a.getD k 0 < b.getD k 0 + (crw (sbF a b) 0 k).2 then 1 else 0) ≤ 1
   split <;> omega
theorem sb_alg (M x y c : Nat) (h1 : x < M) (h2 : y < M) (hc : c ≤ 1) : (x + M - y - c) % M + y + c = x + M * (if x < y + c then 1 else 0) := by
 by_cases h : x < y + c
 ·rw [if_pos h, Nat.mul_one, Nat.mod_eq_of_lt (show x + M - y - c < M by omega)]
  omega
 ·rw [if_neg h, Nat.mul_zero, show x + M - y - c = (x - y - c) + M by omega, Nat.add_mod_right, Nat.mod_eq_of_lt (by omega)]
  omega
theorem sb_step {a b : List Nat} (ha : W64 a) (hb : W64 b) (k c : Nat) (hc : c ≤ 1) : (sbF a b k c).1 + b.getD k 0 + c = a.getD k 0 + BB * (sbF a b k c).2 := by
 exact sb_alg BB _ _ c (ha.getD k) (hb.getD k) hc
theorem sum_alg (V Sy Sx P c A y x M c' : Nat) (ih : V + Sy = Sx + P * c) (hs : A + y + c = x + M * c') : V + P * A + (Sy + P * y) = Sx + P * x + P * (M * c') := by
 have e : P * (A + y + c) = P * (x + M * c') := by rw [hs]
 rw [Nat.mul_add, Nat.mul_add, Nat.mul_add] at e
 omega
theorem sub_sum {f : Nat → Nat → Nat × Nat} {x y : Nat → Nat} (h : ∀ k, (f k (crw f 0 k).2).1 + y k + (crw f 0 k).2 = x k + BB * (f k (crw f 0 k).2).2) : ∀ k, val (crw f 0 k).1 + sumN y k = sumN x k + BB ^ k * (crw f 0 k).2
 | 0 => rfl
 | k + 1 => by
   have ih := sub_sum h k
   have hs := h k
   rw [crw, sumN, sumN]
   simp only
   rw [val_append, cr_len]
   simp only [val, Nat.mul_zero, Nat.add_zero]
   rw [Nat.pow_succ, Nat.mul_assoc]
   exact sum_alg _ _ _ _ _ _ _ _ _ _ ih hs
theorem sb_sum {a b : List Nat} (ha : W64 a) (hb : W64 b) (k : Nat) : val (crw (sbF a b) 0 k).1 + sumN (fun i => b.getD i 0) k = sumN (fun i => a.getD i 0) k + BB ^ k * (crw (sbF a b) 0 k).2 :=
 sub_sum (f := sbF a b) (x := fun i => a.getD i 0) (y := fun i => b.getD i 0) (fun k => sb_step ha hb k _ (sb_carry a b k)) k
theorem sb_val {a b : List Nat} (ha : W64 a) (hb : W64 b) (hl : b.length ≤ a.length) (h : val b ≤ val a) : val (crw (sbF a b) 0 a.length).1 = val a - val b := by
 have e := sb_sum ha hb a.length
 rw [sumN_pad _ hl, sumN_pad _ (Nat.le_refl _)] at e
 have hw : W64 (crw (sbF a b) 0 a.length).1 := cr_w64 (fun k c => Nat.mod_lt _ BB_pos) _
 have hlt := val_lt hw
 rw [cr_len] at hlt
 have hc := sb_carry a b a.length
 rcases Nat.eq_zero_or_pos (crw (sbF a b) 0 a.length).2 with h0 | h0
 ·rw [h0, Nat.mul_zero] at e; omega
 ·have h1 : (crw (sbF a b) 0 a.length).2 = 1 := by omega
  rw [h1, Nat.mul_one] at e; omega
def adF (a b : List Nat) (k c : Nat) : Nat × Nat := ((a.getD k 0 + b.getD k 0 + c) % BB, (a.getD k 0 + b.getD k 0 + c) / BB)
theorem ad_carry {a b : List Nat} (ha : W64 a) (hb : W64 b) : ∀ k, (crw (adF a b) 0 k).2 ≤ 1
 | 0 => by simp [crw]
 | k + 1 => by
   have ih := ad_carry ha hb k
   have h1 := ha.getD k
   have h2 := hb.getD k
   rw [crw]
   show (a.getD k 0 + b.getD k 0 + (crw (adF a b) 0 k).2) / BB ≤ 1
   have : (a.getD k 0 + b.getD k 0 + (crw (adF a b) 0 k).2) / BB < 2 := by
    rw [Nat.div_lt_iff_lt_mul BB_pos]; omega
   omega
theorem ad_val {a b : List Nat} (ha : W64 a) (hb : W64 b) (hl : b.length ≤ a.length) : val ((crw (adF a b) 0 a.length).1 ++ [(crw (adF a b) 0 a.length).2]) = val a + val b := by
 have h := cr_val (f := adF a b) (c0 := 0) (t := fun i => a.getD i 0 + b.getD i 0) (n := a.length) (fun k _ => Nat.mod_add_div _ _) a.length (Nat.le_refl _)
 rw [sumN_add, sumN_pad _ (Nat.le_refl _), sumN_pad _ hl, Nat.add_zero] at h
 rw [val_append, cr_len]
 simp only [val, Nat.mul_zero, Nat.add_zero]
 exact h
def tmF (a : List Nat) (m : Nat) (k c : Nat) : Nat × Nat := ((a.getD k 0 * m + c) % BB, (a.getD k 0 * m + c) / BB)
theorem tm_carry {a : List Nat} (ha : W64 a) {m c0 : Nat} (hm : m < BB) (hc : c0 < BB) : ∀ k, (crw (tmF a m) c0 k).2 < BB
 | 0 => hc
 | k + 1 => by
   have ih := tm_carry ha hm hc k
   have h1 := ha.getD k
   rw [crw]
   show (a.getD k 0 * m + (crw (tmF a m) c0 k).2) / BB < BB
   rw [Nat.div_lt_iff_lt_mul BB_pos]
   have : (a.getD k 0 + 1) * m ≤ BB * m := Nat.mul_le_mul_right _ h1
   have h3 : BB * (m + 1) ≤ BB * BB := Nat.mul_le_mul_left _ hm
   rw [Nat.add_mul, Nat.one_mul] at this
   rw [Nat.mul_add, Nat.mul_one] at h3
   omega
theorem tm_val {a : List Nat} {m c0 : Nat} : val ((crw (tmF a m) c0 a.length).1 ++ [(crw (tmF a m) c0 a.length).2]) = val a * m + c0 := by
 have h := cr_val (f := tmF a m) (c0 := c0) (t := fun i => a.getD i 0 * m) (n := a.length) (fun k _ => Nat.mod_add_div _ _) a.length (Nat.le_refl _)
 rw [sumN_mul, sumN_pad _ (Nat.le_refl _)] at h
 rw [val_append, cr_len]
 simp only [val, Nat.mul_zero, Nat.add_zero]
 exact h
end Go.Proofs.YtlgencbldbpbdaaGreatDoor
namespace Go.Proofs.YtlgencbldbpbdaaGreatDoor
open Go.RowKit Fl
theorem x92 (x y c : Nat) (hc : c ≤ 1) (w : World) : (callFunc 258 #[.int .u64 x, .int .u64 y, .int .u64 c]).run Tryz.prog w = .ok (.value (.tuple #[.int .u64 (((x + BB - y - c) % BB : Nat) : Int), .int .u64 ((if x < y + c then 1 else 0 : Nat) : Int)])) w := by
 rw [run_callFunc_extern (P := Tryz.prog) (f := 258) (fn := Tryz.f258) (e := sub64Entry) (by kernel_rfl) (by kernel_rfl) (by kernel_rfl) (by kernel_rfl) (by kernel_rfl)]
 have : c = 0 ∨ c = 1 := by omega
 rcases this with rfl | rfl <;> rfl
set_option maxRecDepth 100000 in
set_option maxHeartbeats 2000000 in
theorem c61b {w : World} {v u : Value} {x y : Nat} (hv : NV w v x) (hu : NV w u y) (hyx : y ≤ x) (hs : blen x ≤ 64000) :
  Calls Tryz.prog 193 #[v, u] w fun e w' => Below w.heap.size w w' ∧ ∃ v', e = .returned v' ∧ NV w' v' (x - y) ∧ ∀ g, blk v' = some g → w.heap.size ≤ g := by
 obtain ⟨a, na, ca, rfl⟩ := hv
 obtain ⟨b, nb, cb, rfl⟩ := hu
 have hlen := len_small na.1 ca (n := 1000) hs
 have hba : b.length ≤ a.length := by
  rcases Nat.lt_or_ge a.length b.length with h | h
  ·have := len_lt na.1 cb h; omega
  ·exact h
 have la2 : (a.length : Int) ≤ 1000 := by omega
 have lb2 : (b.length : Int) ≤ (a.length : Int) := by omega
 have HW := Lib.hid na.1
 have HV := Lib.hid nb.1
 have NA' := Lib.hid na
 have NB' := Lib.hid nb
 have V1 := Lib.hid (sb_val na.1 nb.1 hba hyx)
 have W1 : Hid (W64 (crw (sbF a b) 0 a.length).1) := Lib.hid (cr_w64 (fun k c => Nat.mod_lt _ BB_pos) _)
 obtain ⟨A, ac, rfl⟩ := na.form
 obtain ⟨B, bc, rfl⟩ := nb.form
 have hmk : ∀ wx : World, (Instr.makeSlice 254 (.int .i64 0) (.int .i64 (a.length : Int))).run Tryz.prog wx = .ok (.slice (some ⟨wx.heap.size, 0, none⟩) 0 a.length) (wx.alloc (.cells (madeCells #[.int .u64 0] a.length) 101)) := fun wx => run_mk 0 a.length (by omega) (by omega) wx
 have O0 := Lib.hid (OU.made w (p := 0) (q := a.length) (by omega) (by unfold maxLen; omega) (B := w.heap.size) (Nat.le_refl _))
 have B0 : Hid (Below w.heap.size w (w.alloc (.cells (madeCells #[.int .u64 0] a.length) 101))) := Lib.hid ((Below.refl _ _).alloc (Nat.le_refl _) _)
 clear na nb ca cb hs hlen hba hyx
 go_enter Tryz.func193, Tryz.ntmps193
 go_upto_region 2 with fail
 generalize w.alloc (.cells (madeCells #[.int .u64 0] a.length) 101) = w1 at *
 generalize (Value.slice (some ⟨w.heap.size, 0, none⟩) 0 a.length) = v1 at *
 go_wp2_with fail
 go_loopw [5, 6, 16] (fun v lo i wx => ∃ k : Nat, k ≤ a.length ∧ i = .int .i64 k ∧ lo = .int .u64 ((crw (sbF a b) 0 k).2 : Nat) ∧ Hid (OU wx w.heap.size v (crw (sbF a b) 0 k).1) ∧ Hid (Below w.heap.size w wx)) (fun _ _ i _ => a.length - (intOf i).toNat)
 case atStart => exact ⟨0, Nat.zero_le _, rfl, rfl, O0, B0⟩
 case round =>
  obtain ⟨k, hk, rfl, rfl, hO, hB⟩ := hrel
  by_cases hlt : k < a.length
  ·have hki : (k : Int) < (a.length : Int) := by omega
   obtain ⟨b1, o1, c1, e1, q1, q2, hA⟩ := (NA'.out.below hB.out).addr (by omega)
   cases e1
   obtain ⟨x, hx⟩ : ∃ x, a[k]? = some x := ⟨a[k], List.getElem?_eq_getElem hlt⟩
   have kc := hA.2 k x hx
   have hgd : a.getD k 0 = x := by rw [List.getD, hx]; rfl
   have hcl := sb_carry a b k
   have HLT := Lib.hid hlt
   have L1 : Hid ((crw (sbF a b) 0 k).1.length ≤ 1000000) := Lib.hid (by rw [cr_len]; omega)
   obtain ⟨y, hy⟩ : ∃ y, y = b.getD k 0 := ⟨_, rfl⟩
   have E1 : Hid ((crw (sbF a b) 0 (k + 1)).1 = (crw (sbF a b) 0 k).1 ++ [(x + BB - y - (crw (sbF a b) 0 k).2) % BB]) := Lib.hid (by rw [crw, sbF, hgd, hy])
   have E2 : Hid ((crw (sbF a b) 0 (k + 1)).2 = if x < y + (crw (sbF a b) 0 k).2 then 1 else 0) := Lib.hid (by rw [crw, sbF, hgd, hy])
   obtain ⟨lo, hlo⟩ : ∃ lo, lo = (crw (sbF a b) 0 k).2 := ⟨_, rfl⟩
   rw [← hlo] at hcl E1 E2 ⊢
   have h92 := x92 x y lo hcl
   obtain ⟨d, hd⟩ : ∃ d, d = (x + BB - y - lo) % BB := ⟨_, rfl⟩
   obtain ⟨c2, hc2⟩ : ∃ c2, c2 = (if x < y + lo then 1 else 0) := ⟨_, rfl⟩
   rw [← hd, ← hc2] at h92
   rw [← hd] at E1
   rw [← hc2] at E2
   by_cases hkb : k < b.length
   ·have hkbi : (k : Int) < (b.length : Int) := by omega
    obtain ⟨b2, o2, c3, e2, q3, q4, hA2⟩ := (NB'.out.below hB.out).addr (by omega)
    cases e2
    have hy2 : b[k]? = some y := by rw [hy, List.getD, List.getElem?_eq_getElem hkb]; rfl
    have ky := hA2.2 k y hy2
    clear hx hgd hcl hlo hlt hd hc2 hA hA2 q1 q2 q3 q4 hy hy2 hkb
    go_wp2_with (at_builtin; refine wpList_app rfl (.tmp 36) (.tmp 38) rfl w.heap.size _ _ _ rfl hO.out rfl L1.out hB.out.size ?_; intro v' w' own' bel' siz'; replace own' := Lib.hid own'; replace bel' := Lib.hid bel'; clear siz')
    go_roundw
    case rel => exact ⟨k + 1, by have := HLT.out; omega, by go_num, by rw [E2.out], Lib.hid (by rw [E1.out]; exact own'.out), Lib.hid (bel'.out w (Nat.le_refl _) hB.out)⟩
    case measure => have := HLT.out; simp [intOf]; omega
   ·have hkbi : ¬ (k : Int) < (b.length : Int) := by omega
    have hy0 : y = 0 := by rw [hy, List.getD, List.getElem?_eq_none (by omega)]; rfl
    have h92' : ∀ w : World, (callFunc 258 #[.int .u64 x, .int .u64 0, .int .u64 lo]).run Tryz.prog w = .ok (.value (.tuple #[.int .u64 (d : Int), .int .u64 (c2 : Int)])) w := by
     intro w2
     have := h92 w2
     rw [hy0] at this
     exact this
    clear hx hgd hcl hlo hlt hd hc2 hA q1 q2 hy hy0 hkb h92
    go_wp2_with (at_builtin; refine wpList_app rfl (.tmp 36) (.tmp 38) rfl w.heap.size _ _ _ rfl hO.out rfl L1.out hB.out.size ?_; intro v' w' own' bel' siz'; replace own' := Lib.hid own'; replace bel' := Lib.hid bel'; clear siz')
    go_roundw
    case rel => exact ⟨k + 1, by have := HLT.out; omega, by go_num, by rw [E2.out], Lib.hid (by rw [E1.out]; exact own'.out), Lib.hid (bel'.out w (Nat.le_refl _) hB.out)⟩
    case measure => have := HLT.out; simp [intOf]; omega
  ·have hki : ¬ (k : Int) < (a.length : Int) := by omega
   have hkl : k = a.length := by omega
   subst hkl
   clear hlt
   go_wp2_with fail
   refine (c82b (hO.out.nl W1.out)).mono ?_
   rintro e w2 ⟨rfl, v2, rfl, hv2, hg2⟩
   have HG2 := Lib.hid (fun g hg => hO.out.blk (hg2 g hg))
   clear hg2
   have R2 : Hid (NV wr v2 (val a - val b)) := Lib.hid ⟨_, hv2, tn_can _ (Nat.le_refl _), by rw [tn_val _ (Nat.le_refl _), List.take_length, V1.out]⟩
   clear hv2
   go_wp2_with fail
   go_ret
   exact ⟨hB.out, _, rfl, R2.out, HG2.out⟩
end Go.Proofs.YtlgencbldbpbdaaGreatDoor
