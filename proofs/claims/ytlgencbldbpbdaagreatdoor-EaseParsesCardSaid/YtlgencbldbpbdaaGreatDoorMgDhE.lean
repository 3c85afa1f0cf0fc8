/- large.Digits. The digits without the noughts ahead and behind; the sizes of the two numbers of a quotient. Plain laws. -/
import Derived.Test.YtlgencbldbpbdaaGreatDoorMgDhD
import Derived.Test.YtlgencbldbpbdaaGreatDoorMgLgH
import Derived.Test.YtlgencbldbpbdaaGreatDoorDhA
import Derived.Deep.RegionHeld3
import Derived.Deep.DeepCutAuto
import Derived.IntWalk
import Derived.Test.YtlgencbldbpbdaaGreatDoorLgN
namespace Go.Proofs.YtlgencbldbpbdaaGreatDoor
open Go.RowKit Fl
theorem dval_more (a b : List Nat) : dval (a ++ b) = dval a * 10 ^ b.length + dval b := by
 induction b generalizing a with
 | nil => rw [List.append_nil]; show _ = dval a * 1 + 0; omega
 | cons x b ih =>
   have e : a ++ x :: b = (a ++ [x]) ++ b := by simp
   have e2 : dval (x :: b) = (x - 48) * 10 ^ b.length + dval b := by
    have := ih [x]
    rw [show x :: b = [x] ++ b from rfl, this]
    congr 1
    show (0 * 10 + (x - 48)) * _ = _
    rw [Nat.zero_mul, Nat.zero_add]
   rw [e, ih, dval_snoc, e2, List.length_cons, Nat.pow_succ, Nat.add_mul, Nat.add_assoc, Nat.mul_assoc, Nat.mul_comm 10]
theorem dval_part (l : List Nat) (k c : Nat) (h : k + c ≤ l.length) : dval (l.take (k + c)) = dval (l.take k) * 10 ^ c + dval ((l.drop k).take c) := by
 rw [List.take_add, dval_more, List.length_take, List.length_drop, Nat.min_eq_left (by omega)]
theorem dval_bits {l : List Nat} (h : DG l) (hl : l.length ≤ 1000) : blen (dval l) ≤ 64000 := by
 have := dval_lt h l.length (Nat.le_refl _)
 rw [List.take_of_length_le (Nat.le_refl _)] at this
 have h2 : (10 : Nat) ^ l.length = 10 ^ l.length := rfl
 have h3 := blen_ten l.length
 exact Nat.le_trans (blen_mono (Nat.le_of_lt this)) (by omega)
theorem nv_nil (w : World) : NV w (.slice none 0 0) 0 := ⟨[], ⟨fun x hx => (nomatch hx), .inl ⟨rfl, rfl⟩⟩, .inl rfl, rfl⟩
set_option maxRecDepth 100000 in
set_option maxHeartbeats 4000000 in
theorem lDigits (s : ByteArray) (w : World) (hd : DG (bl s)) (h1 : s.size ≤ 1000) :
  Calls Tryz.prog 256 #[.string s] w fun e w' => Below w.heap.size w w' ∧ ∃ v', e = .returned v' ∧ NV w' v' (dval (bl s)) := by
 have HD := Lib.hid hd
 have LB := Lib.hid (bl_len s)
 have HS := Lib.hid h1
 clear hd h1
 go_enter Tryz.func256, Tryz.ntmps256
 go_upto_region 2 with fail
 go_loopw [0, 3] (fun sv v wx => ∃ (k : Nat) (t : ByteArray), sv = .string t ∧ t.size + k = s.size ∧ bl t = (bl s).drop k ∧ NV wx v (dval ((bl s).take k)) ∧ Below w.heap.size w wx) (fun sv _ _ => match sv with | .string t => t.size | _ => 0)
 case atStart => exact ⟨0, s, rfl, rfl, rfl, nv_nil _, Below.refl _ _⟩
 case round =>
  obtain ⟨k, t, rfl, hk, ht, hv, hb⟩ := hrel
  by_cases hlt : 0 < t.size
  ·obtain ⟨e1, e2⟩ := full_bl hlt
   obtain ⟨c, hc⟩ : ∃ c, c = min 18 t.size := ⟨_, rfl⟩
   have cm : min (18 : Int) (t.size : Int) = (c : Int) := by omega
   have c1 : c ≤ 18 := by omega
   have c2 : c ≤ t.size := by omega
   have c0 : 0 < c := by omega
   have ci : (c : Int) ≤ (t.size : Int) := by omega
   have ts : ((t.extract 0 c).size : Int) = (c : Int) := by rw [ByteArray.size_extract]; omega
   have be : bl (t.extract 0 c) = (bl t).take c := by rw [bl_extract, List.drop_zero]
   have CP := Lib.hid (lPU (t.extract 0 c) · (by rw [be, ht]; exact (HD.out.drop _).take _) (by omega) (by omega))
   have BE := Lib.hid be
   have FT := Lib.hid (And.intro hk (And.intro ht (And.intro hv hb)))
   have HC := Lib.hid (And.intro c0 (And.intro c1 c2))
   have s1 : (t.size : Int) ≤ 1000 := by have := HS.out; omega
   have c1i : (c : Int) ≤ 18 := by omega
   clear hk ht hv hb hc c1 c2 c0 ts be
   go_upto_region 7 with (go_at_call 287; refine (CP.out _).mono ?_; rintro e w1 ⟨rfl, hb1⟩)
   have I := Lib.hid (FT.out.2.2.2.trans (hb1.mono FT.out.2.2.2.size))
   have NVh := Lib.hid (FT.out.2.2.1.below hb1)
   have BE2 := Lib.hid (congrArg dval BE.out)
   obtain ⟨N, hN⟩ : ∃ N, N = dval (bl (t.extract 0 c)) := ⟨_, rfl⟩
   have nb : N < 1000000000000000000 := by
    rw [hN, BE.out, FT.out.2.1]
    have a1 := dval_lt ((HD.out.drop k).take c) ((List.take c (List.drop k (bl s))).length) (Nat.le_refl _)
    rw [List.take_of_length_le (Nat.le_refl _)] at a1
    have a2 : (List.take c (List.drop k (bl s))).length ≤ 18 := by rw [List.length_take]; have := HC.out.2.1; omega
    have a3 := Nat.pow_le_pow_right (show 0 < 10 by decide) a2
    rw [show (10 : Nat) ^ 18 = 1000000000000000000 from by decide] at a3
    omega
   rw [← hN] at BE2 ⊢
   clear hN hb1 CP
   go_loopw [7, 21] (fun b j wx => ∃ i : Nat, i ≤ c ∧ j = .int .i64 i ∧ b = .int .u64 (10 ^ i : Nat) ∧ wx = w1) (fun _ j _ => c - (intOf j).toNat)
   case atStart => exact ⟨0, Nat.zero_le _, rfl, rfl, rfl⟩
   case round =>
    obtain ⟨i, hi, rfl, rfl, rfl⟩ := hrel
    by_cases hlt2 : i < c
    ·have hii : (i : Int) < (c : Int) := by omega
     have t1 := ten18 (k := i) (by have := HC.out.2.1; omega)
     have HI := Lib.hid hlt2
     obtain ⟨q, hq⟩ : ∃ q, q = 10 ^ i := ⟨_, rfl⟩
     have HQ := Lib.hid (show 10 ^ (i + 1) = q * 10 by rw [hq, Nat.pow_succ])
     rw [← hq] at t1 ⊢
     have t2 : (q : Int) ≤ 1000000000000000000 := by omega
     clear hlt2 hi hq t1
     go_wp2_with fail
     go_roundw
     case rel => exact ⟨i + 1, HI.out, by go_num, by rw [HQ.out]; push_cast; rfl, trivial⟩
     case measure => have := HI.out; simp [intOf]; omega
    ·have hii : ¬ (i : Int) < (c : Int) := by omega
     have hic : i = c := by omega
     rw [hic] at hii ⊢
     obtain ⟨p, hp⟩ : ∃ p, p = 10 ^ c := ⟨_, rfl⟩
     rw [← hp]
     have HP := Lib.hid hp
     clear hlt2 hi hic hp
     go_upto_region 10 with fail
     have e77 := Lib.hid (fun wx (hb : Below wr.heap.size wr wx) => lTimes (c := N) (NVh.out.below hb) (show blen (dval (List.take k (bl s))) ≤ 64000 from dval_bits (HD.out.take k) (by rw [List.length_take, LB.out]; have := HS.out; omega)) (m := p) (by have := ten18 HC.out.2.1; have := HP.out; unfold BB; omega) (by unfold BB; omega))
     have J : Hid (Below wr.heap.size wr wr.drew) := Lib.hid ⟨rfl, rfl, rfl, Nat.le_refl _, fun _ _ => rfl⟩
     go_region_held3 (fun w' => True) (trivial) (first | (go_at_call 250; with_reducible refine (e77.out _ J.out).mono ?_; rintro e w3 ⟨hb, v15, rfl, h15, -⟩; have K15 := Lib.hid h15; replace J := Lib.hid (J.out.trans (hb.mono J.out.size)); clear hb h15))
     have F1 := Lib.hid (show (t.extract c t.size).size + (k + c) = s.size ∧ (t.extract c t.size).size < t.size from by have := HC.out; have := FT.out.1; rw [ByteArray.size_extract]; omega)
     have F2 := Lib.hid (show bl (t.extract c t.size) = (bl s).drop (k + c) from by
      rw [bl_extract, List.take_of_length_le (Nat.le_of_eq (bl_len t)), FT.out.2.1, List.drop_drop])
     have F3 := Lib.hid (show dval ((bl s).take (k + c)) = dval (List.take k (bl s)) * p + N from by
      rw [dval_part _ _ _ (by rw [LB.out]; have := F1.out; omega), HP.out, BE2.out, FT.out.2.1])
     go_roundw
     case rel =>
      have K16 := (show NV w3 v15 (dval (List.take (k + c) (bl s))) from by rw [F3.out]; exact K15.out)
      (repeat apply Exists.intro)
      exact ⟨⟨k + c, _, rfl, F1.out.1, F2.out, K16, I.out.trans (J.out.mono I.out.size)⟩, rfl⟩
     case measure => exact F1.out.2
  ·have ez : t.size = 0 := by omega
   obtain ⟨e1, e2, -⟩ := empty_bl ez
   have R := Lib.hid (show NV wr u3 (dval (bl s)) from by
    rw [List.take_of_length_le (by rw [LB.out]; omega)] at hv; exact hv)
   have B := Lib.hid hb
   clear hlt hk ht hv hb ez
   go_wp2_with fail
   go_ret
   exact ⟨B.out, _, rfl, R.out⟩
end Go.Proofs.YtlgencbldbpbdaaGreatDoor
namespace Go.Proofs.YtlgencbldbpbdaaGreatDoor
open Fl
theorem getD_drop (l : List Nat) (f k : Nat) : (l.drop f).getD k 0 = l.getD (f + k) 0 := by
 rw [List.getD, List.getD, List.getElem?_drop]
theorem te_at (l : List Nat) (f : Nat) : te l f f = f := by
 cases f with
 | zero => rfl
 | succ m => rw [te, if_neg (fun h => Nat.lt_irrefl _ h.1)]
theorem te_drop (l : List Nat) (f : Nat) : ∀ k, te (l.drop f) 0 k + f = te l f (f + k)
 | 0 => by rw [Nat.add_zero, te_at, te_at]; exact Nat.zero_add f
 | k + 1 => by
   have ih := te_drop l f k
   rw [te, getD_drop, ← Nat.add_assoc, te]
   by_cases h : l.getD (f + k) 0 = 48
   ·rw [if_pos ⟨by omega, h⟩, if_pos ⟨by omega, h⟩]; exact ih
   ·rw [if_neg (fun e => h e.2), if_neg (fun e => h e.2)]; omega
theorem strip_two (l : List Nat) : stripD l = (l.drop (lead l)).take (te (l.drop (lead l)) 0 (l.length - lead l)) := by
 have h := te_drop l (lead l) (l.length - lead l)
 have h2 := lead_le l
 unfold stripD
 rw [show lead l + (l.length - lead l) = l.length by omega] at h
 rw [← h, List.drop_take, Nat.add_sub_cancel]
theorem lead_not : ∀ l : List Nat, lead l < l.length → l.getD (lead l) 0 ≠ 48
 | [], h => absurd h (Nat.lt_irrefl _)
 | x :: l, h => by
   rw [lead] at h ⊢
   by_cases hx : x = 48
   ·rw [if_pos hx] at h ⊢
    exact lead_not l (by rw [List.length_cons] at h; omega)
   ·rw [if_neg hx]
    exact hx
theorem te_full (l : List Nat) (f : Nat) (hf : l.getD f 0 ≠ 48) : ∀ k, f < k → f < te l f k
 | 0, h => absurd h (Nat.not_lt_zero _)
 | k + 1, h => by
   rw [te]
   by_cases h0 : f < k + 1 ∧ l.getD k 0 = 48
   ·rw [if_pos h0]
    refine te_full l f hf k ?_
    rcases Nat.lt_or_ge f k with h1 | h1
    ·exact h1
    ·have : f = k := by omega
     subst this
     exact absurd h0.2 hf
   ·rw [if_neg h0]; exact h
theorem strip_nil {l : List Nat} (h : lead l = l.length) : stripD l = [] := List.eq_nil_of_length_eq_zero (by
 rw [strip_len, h, te_at, Nat.sub_self])
theorem strip_some {l : List Nat} (h : lead l < l.length) : ∃ r, stripD l = l.getD (lead l) 0 :: r := by
 have h1 := te_full l (lead l) (lead_not l h) l.length h
 rw [strip_two]
 have h2 := te_drop l (lead l) (l.length - lead l)
 rw [show lead l + (l.length - lead l) = l.length by omega] at h2
 obtain ⟨m, hm⟩ : ∃ m, te (l.drop (lead l)) 0 (l.length - lead l) = m + 1 := ⟨te (l.drop (lead l)) 0 (l.length - lead l) - 1, by omega⟩
 rw [hm, List.drop_eq_getElem_cons h, List.take_succ_cons, List.getD, List.getElem?_eq_getElem h]
 exact ⟨_, rfl⟩
theorem cut_head (x : Nat) (r : List Nat) : ∃ r', cutD (x :: r) = x :: r' := by
 unfold cutD
 split
 ·exact ⟨r.take 799 ++ [49], rfl⟩
 ·exact ⟨r, rfl⟩
theorem dval_ge {x : Nat} {r : List Nat} (h : 49 ≤ x) : 10 ^ r.length ≤ dval (x :: r) := by
 have e := dval_more [x] r
 rw [show [x] ++ r = x :: r from rfl] at e
 have e1 : dval [x] = x - 48 := by show 0 * 10 + (x - 48) = _; omega
 rw [e, e1]
 exact Nat.le_trans (Nat.le_mul_of_pos_left _ (by omega)) (Nat.le_add_right _ _)
theorem digit_size {d : List Nat} {x : Nat} {r : List Nat} {p : Int} (hd : DG d) (he : d = x :: r) (hx : x ≠ 48) (hl : d.length ≤ 801) (hp1 : -400 ≤ p) (hp2 : p ≤ 400) {e : Int} (hee : e = p - d.length) :
  0 < dval d * 10 ^ e.toNat ∧ blen (dval d * 10 ^ e.toNat) ≤ 10000 ∧ blen (10 ^ (-e).toNat) ≤ 10000 ∧ blen (10 ^ (-e).toNat) ≤ blen (dval d * 10 ^ e.toNat) + 1700 ∧ blen (dval d * 10 ^ e.toNat) ≤ blen (10 ^ (-e).toNat) + 1700 := by
 have hx49 : 49 ≤ x := by have := hd x (by rw [he]; exact List.mem_cons_self); omega
 have hge : 10 ^ (d.length - 1) ≤ dval d := by
  have := dval_ge (r := r) hx49
  rw [← he] at this
  rw [show d.length - 1 = r.length from by rw [he]; rfl]
  exact this
 have hlt := dval_lt hd d.length (Nat.le_refl _)
 rw [List.take_of_length_le (Nat.le_refl _)] at hlt
 have hL1 : 1 ≤ d.length := by rw [he, List.length_cons]; omega
 have hp0 : 0 < dval d := Nat.lt_of_lt_of_le (Nat.pow_pos (by decide)) hge
 have P0 : ∀ k : Nat, 0 < 10 ^ k := fun k => Nat.pow_pos (by decide)
 obtain ⟨L, hL⟩ : ∃ L, L = d.length := ⟨_, rfl⟩
 obtain ⟨v, hv⟩ : ∃ v, v = dval d := ⟨_, rfl⟩
 rw [← hL] at hge hlt hl hL1 hee
 rw [← hv] at hge hlt hp0 ⊢
 clear he hd hL hv hx
 refine ⟨Nat.mul_pos hp0 (P0 _), ?_⟩
 have b1 : blen (10 ^ (-e).toNat) ≤ 10000 := Nat.le_trans (blen_ten _) (by omega)
 obtain ⟨m, hm⟩ : ∃ m : Nat, m = 400 := ⟨_, rfl⟩
 have a2 : v * 10 ^ e.toNat ≤ 10 ^ (-e).toNat * 10 ^ m := by
  rcases Int.le_total 0 e with h | h
  ·refine Nat.le_trans (Nat.mul_le_mul_right _ (Nat.le_of_lt hlt)) ?_
   rw [← Nat.pow_add, ← Nat.pow_add]
   exact Nat.pow_le_pow_right (by decide) (by omega)
  ·rw [show e.toNat = 0 by omega, Nat.pow_zero, Nat.mul_one]
   refine Nat.le_trans (Nat.le_of_lt hlt) ?_
   rw [← Nat.pow_add]
   exact Nat.pow_le_pow_right (by decide) (by omega)
 have a3 : 10 ^ (-e).toNat ≤ v * 10 ^ e.toNat * 10 ^ (m + 1) := by
  rcases Int.le_total 0 e with h | h
  ·rw [show (-e).toNat = 0 by omega, Nat.pow_zero]
   exact Nat.mul_pos (Nat.mul_pos hp0 (P0 _)) (P0 (m + 1))
  ·rw [show e.toNat = 0 by omega, Nat.pow_zero, Nat.mul_one]
   refine Nat.le_trans ?_ (Nat.mul_le_mul_right (10 ^ (m + 1)) hge)
   rw [← Nat.pow_add]
   exact Nat.pow_le_pow_right (by decide) (by omega)
 have c2 := Nat.le_trans (blen_mono a2) (blen_mul_le _ _)
 have c3 := Nat.le_trans (blen_mono a3) (blen_mul_le _ _)
 have d2 := blen_ten m
 have d3 := blen_ten (m + 1)
 have b2 := blen_ten (-e).toNat
 generalize blen (10 ^ m) = z2 at *
 generalize blen (10 ^ (m + 1)) = z3 at *
 omega
end Go.Proofs.YtlgencbldbpbdaaGreatDoor
