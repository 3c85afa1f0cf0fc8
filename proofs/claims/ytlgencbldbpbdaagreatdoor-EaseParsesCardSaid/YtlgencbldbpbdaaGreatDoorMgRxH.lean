/- galleyref16: digits of a whole number. galleyref03.Shortest. galleyref03.Shortest: the walk. galleyref03.Print. galleyref16: Print of a line, a curve, of steps (printed by gen_rxi.py). galleyref16: Print of points. -/
import Derived.Test.YtlgencbldbpbdaaGreatDoorMgRxB
import Derived.Test.YtlgencbldbpbdaaGreatDoorDlD
import Derived.Test.YtlgencbldbpbdaaGreatDoorMgDiB
import Derived.Test.YtlgencbldbpbdaaGreatDoorMgDmI
import Derived.Test.YtlgencbldbpbdaaGreatDoorMgEaZ
import Derived.Deep.DeepCutAuto
namespace Go.Proofs.YtlgencbldbpbdaaGreatDoor
open Go.RowKit Fl
theorem dgs9 {n : Nat} (h : n ≤ 999999999) : (dgs n).length ≤ 9 := by
 rw [dgs_len]
 exact nd_le (by have : (10 : Nat) ^ 9 = 1000000000 := by decide
                 omega) (by decide)
set_option maxRecDepth 100000 in
set_option maxHeartbeats 1000000 in
theorem k61_1 (n : Nat) (w : World) (h : n < 10) : Calls Tryz.prog 61 #[.int .i64 n] w fun e w' => (∃ z : ByteArray, e = .returned (.string z) ∧ bl z = dgs n) ∧ Below w.heap.size w w' := by
 have h1 : (n : Int) < 10 := by omega
 have h2 : wrap64 (48 + (n : Int)) = ((48 + n : Nat) : Int) := by unfold wrap64; omega
 have h3 : IntKind.u8.wrap ((48 + n : Nat) : Int) = ((48 + n : Nat) : Int) := by rw [IntKind.wrap_u8]; omega
 have ob := fun w1 => R.one_byte w1 n (by omega)
 have HH := Lib.hid (dgs_small h)
 have HB2 : Hid (bl ⟨#[48 + UInt8.ofNat n]⟩ = [48 + n]) := Lib.hid (by
  show [(48 + UInt8.ofNat n).toNat] = _
  rw [UInt8.toNat_add, UInt8.toNat_ofNat', Nat.mod_eq_of_lt (a := n) (by omega)]
  show [(48 + n) % 256] = _
  rw [Nat.mod_eq_of_lt (by omega)])
 have HB : Hid (bl ⟨#[UInt8.ofNat (48 + n)]⟩ = [48 + n]) := Lib.hid (by
  show [(UInt8.ofNat (48 + n)).toNat] = _
  rw [UInt8.toNat_ofNat', Nat.mod_eq_of_lt (by omega)])
 clear h
 go_enter Tryz.func61, Tryz.ntmps61
 go_wp2
 go_ret
 exact ⟨⟨_, rfl, by rw [HH.out]; first | exact HB.out | exact HB2.out⟩, (Below.refl _ w).alloc (Nat.le_refl _) _⟩
set_option maxRecDepth 100000 in
set_option maxHeartbeats 1000000 in
theorem k61 (n : Nat) (hn : n ≤ 999999999) (w : World) : Calls Tryz.prog 61 #[.int .i64 n] w fun e w' => (∃ z : ByteArray, e = .returned (.string z) ∧ bl z = dgs n) ∧ Below w.heap.size w w' := by
 induction n using Nat.strongRecOn generalizing w with
 | _ n ih =>
   by_cases h : n < 10
   ·exact k61_1 n w h
   ·have h1 : ¬ (n : Int) < 10 := by omega
    have q1 : (n : Int) / 10 = ((n / 10 : Nat) : Int) := by omega
    have q2 : (n : Int) % 10 = ((n % 10 : Nat) : Int) := by omega
    have CA := Lib.hid (fun (w1 : World) => ih (n / 10) (by omega) (by omega) w1)
    have CB := Lib.hid (fun (w1 : World) => k61_1 (n % 10) w1 (by omega))
    have D : Hid (dgs n = dgs (n / 10) ++ dgs (n % 10)) := Lib.hid (by rw [dgs_big h, dgs_small (Nat.mod_lt _ (by decide))])
    have S1 := Lib.hid (show (dgs (n / 10)).length ≤ 9 from dgs9 (by omega))
    have S2 := Lib.hid (show (dgs (n % 10)).length ≤ 9 from dgs9 (by omega))
    obtain ⟨a, ha⟩ : ∃ a, a = n / 10 := ⟨_, rfl⟩
    obtain ⟨b, hb⟩ : ∃ b, b = n % 10 := ⟨_, rfl⟩
    rw [← ha] at q1 CA D S1
    rw [← hb] at q2 CB D S2
    clear ih h ha hb
    go_enter Tryz.func61, Tryz.ntmps61
    go_wp2_with (first
     | (go_at_call 61; (with_reducible refine (CA.out _).mono ?_); rintro e w3 ⟨⟨z, rfl, hz⟩, hb⟩; have HZ := Lib.hid hz; have B3 := Lib.hid hb; have z9 : z.size ≤ 9 := (by rw [← bl_len, hz]; exact S1.out); clear hz hb)
     | (go_at_call 61; (with_reducible refine (CB.out _).mono ?_); rintro e w4 ⟨⟨y, rfl, hy⟩, hb⟩; have HY := Lib.hid hy; have B4 := Lib.hid hb; have y9 : y.size ≤ 9 := (by rw [← bl_len, hy]; exact S2.out); have f1 : ¬ 9223372036854775807 < z.size + y.size := (by omega); clear hy hb))
    go_ret
    exact ⟨⟨_, rfl, by rw [bl_append, HZ.out, HY.out, D.out]⟩, B3.out.trans (B4.out.mono B3.out.size)⟩
end Go.Proofs.YtlgencbldbpbdaaGreatDoor
namespace Go.Proofs.YtlgencbldbpbdaaGreatDoor.R
open Go.RowKit Fl
theorem ratio_scale (b : Nat) (p : Int) (n : Nat) : ∃ c, 0 < c ∧ numS (V b) p n = pM b * 2 ^ ((pE b : Int) - 1074).toNat * 10 ^ (-(p - n)).toNat * c ∧ denS p n = 2 ^ (-((pE b : Int) - 1074)).toNat * 10 ^ (p - n).toNat * c := by
 unfold numS denS
 have hv : V b = pM b * 2 ^ pE b := val_parts b
 rw [hv, show (-(p - (n : Int))).toNat = ((n : Int) - p).toNat by omega]
 have eK : K = 1074 := rfl
 rcases Int.lt_or_le ((pE b : Int) - 1074) 0 with h | h
 ·refine ⟨2 ^ pE b, Nat.two_pow_pos _, ?_, ?_⟩
  ·rw [show ((pE b : Int) - 1074).toNat = 0 by omega, Nat.pow_zero, Nat.mul_one, Nat.mul_right_comm]
  ·rw [Nat.mul_right_comm, ← Nat.pow_add, show (-((pE b : Int) - 1074)).toNat + pE b = K by omega]; rfl
 ·refine ⟨TK, TK_pos, ?_, ?_⟩
  ·have e : 2 ^ pE b = 2 ^ ((pE b : Int) - 1074).toNat * TK := by
    unfold TK
    rw [← Nat.pow_add, show ((pE b : Int) - 1074).toNat + K = pE b by omega]
   rw [e, ← Nat.mul_assoc, Nat.mul_right_comm]
  ·rw [show (-((pE b : Int) - 1074)).toNat = 0 by omega, Nat.pow_zero, Nat.one_mul, Nat.mul_comm]
theorem e17 {n : Nat} (h : n ≤ 17) : 10 ^ n ≤ 100000000000000000 := by
 have := Nat.pow_le_pow_right (show 0 < 10 by decide) h
 rwa [show (10 : Nat) ^ 17 = 100000000000000000 from by decide] at this
theorem cRatioS {b n : Nat} {p : Int} (w : World) (h0 : 0 < b) (h1 : b < INF) (hp : IsP (V b) p) (n1 : 1 ≤ n) (n2 : n ≤ 17) :
  Calls Tryz.prog 162 #[.int .u64 b, .int .i64 (p - n)] w fun e w' => (∃ r, e = .returned (.tuple #[.int .u64 (qS (V b) p n : Nat), .int .i64 r]) ∧ ((0 < r ↔ denS p n < 2 * rS (V b) p n) ∧ (r = 0 ↔ denS p n = 2 * rS (V b) p n))) ∧ Below w.heap.size w w' := by
 have v0 : 0 < V b := by have := V_lt h0; omega
 have vI : V b ≤ V INF := V_le (Nat.le_of_lt h1)
 have hr := hp.range v0 vI
 obtain ⟨c, c0, e1, e2⟩ := ratio_scale b p n
 obtain ⟨X, hX⟩ : ∃ X, X = pM b * 2 ^ ((pE b : Int) - 1074).toNat * 10 ^ (-(p - n)).toNat := ⟨_, rfl⟩
 obtain ⟨Y, hY⟩ : ∃ Y, Y = 2 ^ (-((pE b : Int) - 1074)).toNat * 10 ^ (p - n).toNat := ⟨_, rfl⟩
 rw [← hX] at e1
 rw [← hY] at e2
 have y0 : 0 < Y := by rw [hY]; exact Nat.mul_pos (Nat.two_pow_pos _) (Nat.pow_pos (by decide))
 have hq : qS (V b) p n = X / Y := by unfold qS; rw [e1, e2, Nat.mul_div_mul_right _ _ c0]
 have hm : rS (V b) p n = X % Y * c := by unfold rS; rw [e1, e2, Nat.mul_mod_mul_right]
 have hlt := (q_range hp n1).2
 have h17 := e17 n2
 have hXY : X < 2305843009213693952 * Y := by
  rw [← Nat.div_lt_iff_lt_mul y0, ← hq]; omega
 refine (cRatio w h1 (by omega) (by omega) hX hY hXY).mono ?_
 rintro e w' ⟨⟨r, he, hc⟩, hb⟩
 refine ⟨⟨r, by rw [hq]; exact he, ?_⟩, hb⟩
 have hs := cmpR_sign (cmp_scale hc c0)
 rw [e2, hm, show 2 * (X % Y * c) = 2 * (X % Y) * c from (Nat.mul_assoc _ _ _).symm]
 exact ⟨hs.2.2, hs.2.1.trans eq_comm⟩
theorem le_bb {x n : Nat} (hx : x ≤ 1000000000000000000) (hn : n ≤ 400) : x * 10 ^ n < BB ^ 60 := by
 refine lt_pow32 (a := 60 + 4 * n) ?_ (by omega)
 rw [Nat.pow_add]
 refine Nat.mul_lt_mul_of_lt_of_le ?_ (ten_two n) (Nat.two_pow_pos _)
 have : (2 : Nat) ^ 60 = 1152921504606846976 := by decide
 omega
theorem le_bb1 {n : Nat} (hn : n ≤ 400) : 10 ^ n < BB ^ 60 := by
 have := le_bb (x := 1) (by decide) hn
 rwa [Nat.one_mul] at this
theorem sel_of {b n q : Nat} {p : Int} {r : Int} (hq : q = qS (V b) p n) (h1 : 0 < r ↔ denS p n < 2 * rS (V b) p n) (h2 : r = 0 ↔ denS p n = 2 * rS (V b) p n) :
  selS b p n = if rdS b p n q = true then (if rdS b p n (q + 1) = true ∧ (0 < r ∨ (r = 0 ∧ q % 2 = 1)) then some (q + 1) else some q) else if rdS b p n (q + 1) = true then some (q + 1) else none := by
 subst hq
 unfold selS
 by_cases k1 : rdS b p n (qS (V b) p n) = true
 ·rw [if_pos k1, if_pos k1]
  by_cases k2 : rdS b p n (qS (V b) p n + 1) = true ∧ (denS p n < 2 * rS (V b) p n ∨ (denS p n = 2 * rS (V b) p n ∧ qS (V b) p n % 2 = 1))
  ·rw [if_pos k2, if_pos ⟨k2.1, k2.2.imp h1.2 (fun h => ⟨h2.2 h.1, h.2⟩)⟩]
  ·rw [if_neg k2, if_neg (fun h => k2 ⟨h.1, h.2.imp h1.1 (fun h => ⟨h2.1 h.1, h.2⟩)⟩)]
 ·rw [if_neg k1, if_neg k1]
end Go.Proofs.YtlgencbldbpbdaaGreatDoor.R
namespace Go.Proofs.YtlgencbldbpbdaaGreatDoor.R
open Go.RowKit Fl
def strLen : Value → Nat
 | .string t => t.size
 | _ => 0
theorem u64_q {q : Nat} (h : q ≤ 100000000000000000) : IntKind.u64.wrap ((q : Int) + 1) = ((q + 1 : Nat) : Int) := by rw [IntKind.wrap_u64]; omega
set_option maxRecDepth 100000 in
set_option maxHeartbeats 4000000 in
theorem rShort (x : Nat) (w : World) (hx : U x) :
  Calls Tryz.prog 107 #[.float .f64 x] w fun e w' => (∃ z : ByteArray, e = .returned (.tuple #[.string z, .int .i64 (shP (rg x))]) ∧ bl z = shD (rg x)) ∧ Below w.heap.size w w' := by
 have mag := b_mag x hx
 have blt := rg_lt x
 obtain ⟨b, hbb⟩ : ∃ b, b = rg x := ⟨_, rfl⟩
 rw [← hbb] at mag blt ⊢
 clear hbb
 have bi : (b : Int) ≤ 9223372036854775807 := by omega
 by_cases hb : b = 0 ∨ INF ≤ b
 ·have E1 : Hid (shD b = []) := Lib.hid (by unfold shD; rw [if_pos hb])
  have E2 : Hid (shP b = 0) := Lib.hid (by unfold shP; rw [if_pos hb])
  by_cases h0 : b = 0
  ·have c1 : ((b : Int) == 0) = true := beq_iff_eq.2 (by omega)
   clear hb h0 blt
   go_enter Tryz.func107, Tryz.ntmps107
   go_wp2_with fail
   go_ret2
   exact ⟨⟨_, by rw [E2.out]; rfl, by rw [E1.out]; rfl⟩, Below.refl _ _⟩
  ·have c1 : ((b : Int) == 0) = false := beq_eq_false_iff_ne.2 (by omega)
   have c2 : (9218868437227405312 : Int) ≤ (b : Int) := by have := hb.resolve_left h0; unfold INF at this; omega
   clear hb h0 blt
   go_enter Tryz.func107, Tryz.ntmps107
   go_wp2_with fail
   go_ret2
   exact ⟨⟨_, by rw [E2.out]; rfl, by rw [E1.out]; rfl⟩, Below.refl _ _⟩
 ·have h0 : 0 < b := by
   rcases Nat.eq_zero_or_pos b with c | c
   ·exact absurd (.inl c) hb
   ·exact c
  have h1 : b < INF := Nat.lt_of_not_le (fun c => hb (.inr c))
  have c1 : ((b : Int) == 0) = false := beq_eq_false_iff_ne.2 (by omega)
  have c2 : ¬ (9218868437227405312 : Int) ≤ (b : Int) := by unfold INF at h1; omega
  have HB := Lib.hid (And.intro h0 h1)
  have v0 : 0 < V b := by have := V_lt h0; omega
  have vI : V b ≤ V INF := V_le (Nat.le_of_lt h1)
  have hp := place_is v0 vI
  obtain ⟨r1, r2⟩ := hp.range v0 vI
  have CPl := Lib.hid (fun w => cPlace (b := b) w h0 h1)
  have ED : Hid (shD b = trimD (dgs (shS b).1)) := Lib.hid (by unfold shD; rw [if_neg hb])
  have EP : Hid (shP b = placeF (V b) + Lib.nDigits (shS b).1 - (shS b).2) := Lib.hid (by unfold shP; rw [if_neg hb])
  have ES : Hid (shS b = srchS b (placeF (V b)) 17 1) := Lib.hid rfl
  obtain ⟨p, hpp⟩ : ∃ p, p = placeF (V b) := ⟨_, rfl⟩
  rw [← hpp] at hp r1 r2 CPl EP ES
  have HP := Lib.hid hp
  have CR := Lib.hid (fun (n : Nat) (w : World) (n1 : 1 ≤ n) (n2 : n ≤ 17) => cRatioS (b := b) (p := p) (n := n) w h0 h1 hp n1 n2)
  have CO := Lib.hid (fun (q : Nat) (w : World) (h : q ≤ 100000000000000000) => cOf q w (by omega))
  have CV := Lib.hid (fun (q n : Nat) (wx : World) (v : Value) (k : NV wx v q) (hq : q ≤ 100000000000000000) (hn : n ≤ 17) => cValue k (L := 60) (e := p - n) (by decide) (le_bb (by omega) (by omega)) (le_bb1 (by omega)) (by omega) (by omega))
  have CX := Lib.hid (fun (q n : Nat) (wx : World) (va vb : Value) (ka : NV wx va (q * 10 ^ (p - n).toNat)) (kb : NV wx vb (10 ^ (-(p - n)).toNat)) (hq : q ≤ 100000000000000000) (hn : n ≤ 17) => show Calls Tryz.prog 165 #[.agg #[va, vb], .int .u64 b] wx fun e w' => e = .returned (.bool (rdS b p n q)) ∧ Below wx.heap.size wx w' from by
   have h := cReads (agP ka kb (L := 60) (by decide) (le_bb (by omega) (by omega)) (le_bb1 (by omega))) (Nat.pow_pos (by decide)) h0 h1
   unfold rdS
   rw [show (-(p - (n : Int))).toNat = ((n : Int) - p).toNat by omega] at h
   exact h)
  clear hb h0 h1 v0 vI hp hpp blt
  go_enter Tryz.func107, Tryz.ntmps107
  go_upto_region 6 with (go_at_call 161; refine (CPl.out _).mono ?_; rintro e w1 ⟨rfl, hb⟩; have B1 := Lib.hid hb; clear hb)
  clear CPl
  go_loopw [6] (fun u wx => ∃ n : Nat, u = .int .i64 n ∧ 1 ≤ n ∧ n ≤ 17 ∧ Hid (srchS b p (18 - n) n = shS b) ∧ Hid (Below w.heap.size w wx)) (fun u _ => 18 - (intOf u).toNat)
  case atStart => exact ⟨1, rfl, Nat.le_refl _, by decide, Lib.hid ES.out.symm, B1⟩
  case round =>
   obtain ⟨n, rfl, n1, n2, hS, hB⟩ := hrel
   clear B1
   have n1i : (1 : Int) ≤ (n : Int) := by omega
   have n2i : (n : Int) ≤ 17 := by omega
   have HN := Lib.hid (And.intro n1 n2)
   have q17 := Nat.le_trans (Nat.le_of_lt (q_range HP.out n1).2) (e17 n2)
   have CRn := Lib.hid (fun w => CR.out n w n1 n2)
   obtain ⟨q, hq⟩ : ∃ q, q = qS (V b) p n := ⟨_, rfl⟩
   have HQ := Lib.hid hq
   rw [← hq] at CRn q17
   have q99 : q < 100000000000000000 := by
    rw [hq]; exact Nat.lt_of_lt_of_le (q_range HP.out n1).2 (e17 n2)
   have COq := Lib.hid (fun w => CO.out q w (by omega))
   have COq1 := Lib.hid (fun w => CO.out (q + 1) w (by omega))
   have CVq := Lib.hid (fun wx v k => CV.out q n wx v k (by omega) n2)
   have CVq1 := Lib.hid (fun wx v k => CV.out (q + 1) n wx v k (by omega) n2)
   have CXq := Lib.hid (fun wx va vb ka kb => CX.out q n wx va vb ka kb (by omega) n2)
   have CXq1 := Lib.hid (fun wx va vb ka kb => CX.out (q + 1) n wx va vb ka kb (by omega) n2)
   have wq := u64_q q17
   have qi : (q : Int) ≤ 99999999999999999 := by omega
   obtain ⟨q1, hq1⟩ : ∃ q1, q1 = q + 1 := ⟨_, rfl⟩
   rw [← hq1] at COq1 CVq1 CXq1 wq
   have HQ1 := Lib.hid hq1
   have wq2 : (q : Int) + 1 = (q1 : Int) := by omega
   have SO := Lib.hid (fun (r : Int) h1 h2 => sel_of (b := b) (n := n) (q := q) (p := p) (r := r) HQ.out h1 h2)
   rw [← hq1] at SO
   generalize rdS b p n q = L at *
   generalize rdS b p n q1 = H at *
   clear hq hq1 q17 q99 n1 n2
   go_upto_region 11 with (first
    | (go_at_call 162; refine (CRn.out _).mono ?_; rintro e w2 ⟨⟨r, rfl, hr1, hr2⟩, hb⟩; have S1 := Lib.hid (SO.out r hr1 hr2); have B2 := Lib.hid (hB.out.trans (hb.mono hB.out.size)); clear hb hr1 hr2)
    | (go_at_call 164; with_reducible refine (COq.out _).mono ?_; rintro e w3 ⟨hb, v3, rfl, hv3, -⟩; have B3 := Lib.hid (B2.out.trans (hb.mono B2.out.size)); have K3 := Lib.hid hv3; clear hb hv3)
    | (go_at_call 163; with_reducible refine (CVq.out _ _ K3.out).mono ?_; rintro e w4 ⟨hb, va, vb, rfl, hva, hvb⟩; have B4 := Lib.hid (B3.out.trans (hb.mono B3.out.size)); have K4 := Lib.hid (And.intro hva hvb); clear hb hva hvb)
    | (go_at_call 165; with_reducible refine (CXq.out _ _ _ K4.out.1 K4.out.2).mono ?_; rintro e w5 ⟨rfl, hb⟩; have B5 := Lib.hid (B4.out.trans (hb.mono B4.out.size)); clear hb)
    | (go_at_call 164; with_reducible refine (COq1.out _).mono ?_; rintro e w6 ⟨hb, v6, rfl, hv6, -⟩; have B6 := Lib.hid (B5.out.trans (hb.mono B5.out.size)); have K6 := Lib.hid hv6; clear hb hv6)
    | (go_at_call 163; with_reducible refine (CVq1.out _ _ K6.out).mono ?_; rintro e w7 ⟨hb, va1, vb1, rfl, hva, hvb⟩; have B7 := Lib.hid (B6.out.trans (hb.mono B6.out.size)); have K7 := Lib.hid (And.intro hva hvb); clear hb hva hvb)
    | (go_at_call 165; with_reducible refine (CXq1.out _ _ _ K7.out.1 K7.out.2).mono ?_; rintro e w8 ⟨rfl, hb⟩; have B8 := Lib.hid (B7.out.trans (hb.mono B7.out.size)); clear hb))
   clear CRn COq COq1 CVq CVq1 CXq CXq1 B2 B3 B4 B5 B6 B7 K3 K4 K6 K7
   obtain ⟨N, hN⟩ : ∃ N, N = (!L && !H) := ⟨_, rfl⟩
   have HN2 := Lib.hid hN
   clear hN
   go_cut [58] (fun u wx => u = .bool N ∧ wx = w8)
   case first =>
    have E := HN2.out
    cases L <;> cases H
    all_goals
     have EE := Lib.hid E
     clear E
     go_wp2_with fail
     go_meet
     exact ⟨by rw [EE.out] <;> rfl, rfl⟩
   case rest =>
    obtain ⟨rfl, rfl⟩ := hcut
    cases N
    ·obtain ⟨G, hG⟩ : ∃ G, G = (!L || (H && (decide (0 < r) || (decide (r = 0) && decide (q % 2 = 1))))) := ⟨_, rfl⟩
     have HG := Lib.hid hG
     obtain ⟨d, hd⟩ : ∃ d, d = if G = true then q1 else q := ⟨_, rfl⟩
     have HD := Lib.hid hd
     have SEL : Hid (selS b p n = some d) := Lib.hid (by
      rw [S1.out, hd, hG]
      have E := HN2.out
      cases L <;> cases H <;> simp at E ⊢
      by_cases c : 0 < r ∨ (r = 0 ∧ q % 2 = 1)
      ·rw [if_pos c, if_pos c]
      ·rw [if_neg c, if_neg c])
     have DB : Hid (d ≤ 100000000000000000 ∧ 0 < d) := Lib.hid (by
      have h1 := q_range HP.out (n := n) HN.out.1
      have h2 := e17 HN.out.2
      rw [← HQ.out] at h1
      have h3 := Nat.pow_pos (n := n - 1) (show 0 < 10 by decide)
      have := HQ1.out
      rw [hd]; split <;> omega)
     clear hG hd
     go_upto_region 12 with fail
     go_cut [76] (fun u wx => u = .bool G ∧ wx = wc)
     case first =>
      have E := HG.out
      have E0 := HN2.out
      have par : q % 2 = 0 ∨ q % 2 = 1 := by omega
      cases L
      ·have EE : Hid (G = true) := Lib.hid (by rw [E]; rfl)
       clear E E0
       go_wp2_with fail
       go_meet
       exact ⟨by rw [EE.out] <;> rfl, rfl⟩
      ·cases H
       ·have EE : Hid (G = false) := Lib.hid (by rw [E]; rfl)
        clear E E0
        go_wp2_with fail
        go_meet
        exact ⟨by rw [EE.out] <;> rfl, rfl⟩
       ·rcases Int.lt_trichotomy r 0 with c | c | c
        ·have EE : Hid (G = false) := Lib.hid (by rw [E, decide_eq_false (show ¬ 0 < r by omega), decide_eq_false (show ¬ r = 0 by omega)]; rfl)
         have c1 : ¬ (0 : Int) < r := by omega
         have c2 : (r == 0) = false := beq_eq_false_iff_ne.2 (by omega)
         clear E E0 c
         go_wp2_with fail
         go_meet
         exact ⟨by rw [EE.out] <;> rfl, rfl⟩
        ·subst c
         rcases par with c | c
         ·have EE : Hid (G = false) := Lib.hid (by rw [E, c]; rfl)
          have c1 : (q : Int) % 2 = 0 := by omega
          clear E E0 c
          go_wp2_with fail
          go_meet
          exact ⟨by rw [EE.out] <;> rfl, rfl⟩
         ·have EE : Hid (G = true) := Lib.hid (by rw [E, c]; rfl)
          have c1 : (q : Int) % 2 = 1 := by omega
          clear E E0 c
          go_wp2_with fail
          go_meet
          exact ⟨by rw [EE.out] <;> rfl, rfl⟩
        ·have EE : Hid (G = true) := Lib.hid (by rw [E, decide_eq_true c]; rfl)
         clear E E0
         go_wp2_with fail
         go_meet
         exact ⟨by rw [EE.out] <;> rfl, rfl⟩
     case rest =>
      obtain ⟨rfl, rfl⟩ := hcut
      go_upto_if 76 with fail
      go_cut [7] (fun u wx => u = .int .u64 (d : Int) ∧ wx = wc)
      case first =>
       cases G
       ·have EE : Hid (d = q) := Lib.hid (by rw [HD.out]; rfl)
        go_wp2_with fail
        go_meet
        exact ⟨by rw [EE.out] <;> rfl, rfl⟩
       ·have EE : Hid (d = q1) := Lib.hid (by rw [HD.out]; rfl)
        go_wp2_with fail
        go_meet
        exact ⟨by rw [EE.out] <;> rfl, rfl⟩
      case rest =>
       obtain ⟨rfl, rfl⟩ := hcut
       have CN := Lib.hid (fun w => cNumber d w (by have := DB.out; omega))
       have SH : Hid (shS b = (d, n)) := Lib.hid (by
        have h := hS.out
        have := HN.out
        rw [show 18 - n = (17 - n) + 1 by omega, srch_some SEL.out] at h
        exact h.symm)
       have R1 : Hid (shD b = trimD (dgs d)) := Lib.hid (by rw [ED.out, SH.out])
       have R2 : Hid (shP b = p + Lib.nDigits d - n) := Lib.hid (by rw [EP.out, SH.out])
       have nd : Lib.nDigits d ≤ 18 := nd_le (by have := DB.out; have : (10 : Nat) ^ 18 = 1000000000000000000 := by decide
                                                 omega) (by decide)
       have ND := Lib.hid nd
       have ndi : (Lib.nDigits d : Int) ≤ 18 := by omega
       clear SO S1 HN2 HG HD ED EP ES hS CR CO CV CX nd wq wq2
       go_upto_region 16 with (go_at_call 109; refine (CN.out _).mono ?_; rintro e w9 ⟨⟨z, rfl, hz⟩, hb⟩; have Z := Lib.hid hz; have B9 := Lib.hid (B8.out.trans (hb.mono B8.out.size)); have zs : (z.size : Int) = (Lib.nDigits d : Int) := (by have h1 := congrArg List.length hz; rw [bl_len, dgs_len] at h1; omega); clear hb hz)
       go_loopw [11] (fun u wx => ∃ (k : Nat) (t : ByteArray), u = .string t ∧ Hid (0 < k ∧ k ≤ (dgs d).length ∧ bl t = (dgs d).take k ∧ te (dgs d) 0 k = te (dgs d) 0 (dgs d).length) ∧ wx = w9) (fun u _ => strLen u)
       case atStart =>
        refine ⟨(dgs d).length, z, rfl, Lib.hid ⟨List.length_pos_iff.2 (dgs_ne d), Nat.le_refl _, by rw [Z.out, List.take_length], rfl⟩, rfl⟩
       case round =>
        obtain ⟨k, t, rfl, hI, rfl⟩ := hrel
        obtain ⟨j, rfl⟩ : ∃ j, k = j + 1 := ⟨k - 1, by have := hI.out.1; omega⟩
        have tk : t.size = j + 1 := by
         rw [← bl_len, hI.out.2.2.1, List.length_take]
         have := hI.out.2.1
         omega
        have TK := Lib.hid tk
        have jl : j + 1 ≤ 18 := by
         have h1 := hI.out.2.1
         rw [dgs_len] at h1
         have := ND.out
         omega
        have t1 : (t.size : Int) - 1 = (j : Int) := by omega
        have t2 : (t.size : Int) ≤ 18 := by omega
        have t3 : (j : Int) < (t.size : Int) := by omega
        have t4 : (j : Int) ≤ (t.size : Int) := by omega
        have jt : j < t.size := by omega
        have gx : (dgs d).getD j 0 = (t[j]).toNat := by
         rw [← bl_getD t j jt, hI.out.2.2.1, List.getD, List.getD, List.getElem?_take, if_pos (by omega)]
        have hte := hI.out.2.2.2
        rw [te, gx] at hte
        by_cases h48 : (t[j]).toNat = 48
        ·rw [if_pos ⟨by omega, h48⟩] at hte
         have j0 : 0 < j := by
          rcases Nat.eq_zero_or_pos j with c | c
          ·subst c
           exact absurd (gx.trans h48) (dgs_head d DB.out.2)
          ·exact c
         have E : Hid (0 < j ∧ j ≤ (dgs d).length ∧ bl (t.extract 0 j) = (dgs d).take j ∧ te (dgs d) 0 j = te (dgs d) 0 (dgs d).length) := Lib.hid ⟨j0, by have := hI.out.2.1; omega, by
          rw [bl_extract, List.drop_zero, hI.out.2.2.1, List.take_take, Nat.min_eq_left (by omega)], hte⟩
         have es : Hid ((t.extract 0 j).size = j) := Lib.hid (by rw [ByteArray.size_extract]; omega)
         have b0 : ((t[j]).toNat : Int) = 48 := by omega
         clear hte gx h48 j0 tk jl
         go_wp2_with fail
         go_roundw
         case rel => exact ⟨j, _, rfl, E, trivial⟩
         case measure =>
          show (t.extract 0 j).size < t.size
          rw [es.out]; exact jt
        ·rw [if_neg (fun e => h48 e.2)] at hte
         have E : Hid (bl t = trimD (dgs d)) := Lib.hid (by rw [hI.out.2.2.1]; unfold trimD; rw [← hte])
         have E2 : Hid (p - (n : Int) + (Lib.nDigits d : Int) = shP b) := Lib.hid (by rw [R2.out]; omega)
         have b0 : (((t[j]).toNat : Int) == 48) = false := beq_eq_false_iff_ne.2 (by omega)
         clear hte gx h48 tk jl
         go_wp2_with fail
         go_ret2
         exact ⟨⟨t, by rw [← E2.out]; rfl, by rw [E.out, R1.out]⟩, B9.out⟩
    ·have NONE : selS b p n = none := by
      rw [S1.out]
      have E := HN2.out
      cases L <;> cases H <;> simp at E ⊢
     have n17 : n ≠ 17 := fun e => by
      subst e
      obtain ⟨d, hd⟩ := sel_17 HB.out.1 HB.out.2 HP.out
      rw [hd] at NONE; cases NONE
     have E : Hid (1 ≤ n + 1 ∧ n + 1 ≤ 17 ∧ srchS b p (18 - (n + 1)) (n + 1) = shS b) := Lib.hid ⟨by omega, by have := HN.out; omega, by
      have h := hS.out
      have := HN.out
      rw [show 18 - n = (18 - (n + 1)) + 1 by omega, srch_none NONE] at h
      exact h⟩
     clear NONE n17 SO S1 HN2 ED EP ES hS CR CO CV CX wq wq2
     go_wp2_with fail
     go_roundw
     case rel => exact ⟨n + 1, by go_num, E.out.1, E.out.2.1, Lib.hid E.out.2.2, B8⟩
     case measure => have := E.out; simp [intOf] <;> omega
end Go.Proofs.YtlgencbldbpbdaaGreatDoor.R
namespace Go.Proofs.YtlgencbldbpbdaaGreatDoor.R
open Go.RowKit Fl
theorem bodyF_inf : bodyF INF = [73, 110, 102, 105, 110, 105, 116, 121] := by unfold bodyF; rw [if_neg (by decide), if_pos rfl]
set_option maxRecDepth 100000 in
set_option maxHeartbeats 1000000 in
theorem cZeros (k : Int) (h0 : 0 ≤ k) (h1 : k ≤ 1000) (w : World) : Calls Tryz.prog 108 #[.int .i64 k] w fun e w' => (∃ r : ByteArray, e = .returned (.string r) ∧ bl r = List.replicate k.toNat 48 ∧ (r.size : Int) = k) ∧ w = w' := by
 go_enter Tryz.func108, Tryz.ntmps108
 go_wp2_with fail
 go_loopw [3, 4] (fun s i wx => ∃ (j : Nat) (t : ByteArray), s = .string t ∧ i = .int .i64 j ∧ (j : Int) ≤ k ∧ (t.size : Int) = j ∧ Hid (bl t = List.replicate j 48) ∧ wx = w) (fun _ i _ => k.toNat - (intOf i).toNat)
 case atStart => exact ⟨0, _, rfl, rfl, h0, rfl, Lib.hid rfl, rfl⟩
 case round =>
  obtain ⟨j, t, rfl, rfl, hj, ht, hT, rfl⟩ := hrel
  by_cases c : (j : Int) < k
  ·have t1 : (t.size : Int) ≤ 1000 := by omega
   have E : Hid (bl (t ++ ⟨#[48]⟩) = List.replicate (j + 1) 48) := Lib.hid (by
    rw [bl_append, hT.out, List.replicate_succ']; rfl)
   have E2 : Hid (((t ++ ⟨#[48]⟩ : ByteArray).size : Int) = ((j + 1 : Nat) : Int)) := Lib.hid (by
    rw [ByteArray.size_append]; have : (⟨#[48]⟩ : ByteArray).size = 1 := rfl; omega)
   have c2 := Lib.hid c
   go_wp2_with fail
   go_roundw
   case rel => exact ⟨j + 1, _, rfl, by go_num, by have := c2.out; omega, E2.out, E, trivial⟩
   case measure => have := c2.out; simp [intOf]; omega
  ·have E : Hid (bl t = List.replicate k.toNat 48 ∧ (t.size : Int) = k) := Lib.hid ⟨by rw [hT.out, show k = (j : Int) by omega, Int.toNat_natCast], by omega⟩
   go_wp2_with fail
   go_ret
   exact ⟨⟨_, rfl, E.out.1, E.out.2⟩, rfl⟩
theorem cNum (k : Int) (h0 : 0 ≤ k) (h1 : k ≤ 1000) (w : World) : Calls Tryz.prog 109 #[.int .u64 k] w fun e w' => (∃ r : ByteArray, e = .returned (.string r) ∧ bl r = dgs k.toNat ∧ (r.size : Int) ≤ 4) ∧ Below w.heap.size w w' := by
 obtain ⟨n, rfl⟩ : ∃ n : Nat, k = n := ⟨k.toNat, by omega⟩
 refine (cNumber n w (by omega)).mono ?_
 rintro e w' ⟨⟨r, rfl, hr⟩, hb⟩
 have h2 := dgs_short (n := n) (by omega)
 exact ⟨⟨r, rfl, by rw [hr, Int.toNat_natCast], by rw [← bl_len, hr]; omega⟩, hb⟩
set_option maxRecDepth 100000 in
set_option maxHeartbeats 4000000 in
theorem rPrint (x : Nat) (w : World) (hx : U x) :
  Calls Tryz.prog 60 #[.float .f64 x] w fun e w' => (∃ z : ByteArray, e = .returned (.string z) ∧ bl z = printF x) ∧ Below w.heap.size w w' := by
 have mag := b_mag x hx
 have sgn := sgn_ne x hx
 have CH := Lib.hid (fun w => rShort x w hx)
 have FB : Hid (printF x = if INF < rg x then [78, 97, 78] else (if sg x = true then [45] else []) ++ bodyF (rg x)) := Lib.hid rfl
 have blt := rg_lt x
 generalize rg x = b at *
 obtain ⟨S, hS⟩ : ∃ S : ByteArray, S = if sg x = true then ⟨#[45]⟩ else ⟨#[]⟩ := ⟨_, rfl⟩
 have SB : Hid (bl S = if sg x = true then [45] else []) := Lib.hid (by rw [hS]; cases sg x <;> rfl)
 have SZ : (S.size : Int) ≤ 1 := by rw [hS]; cases sg x <;> decide
 have HS := Lib.hid hS
 clear hS hx
 generalize sg x = sx at *
 have bi : (b : Int) ≤ 9223372036854775807 := by omega
 go_enter Tryz.func60, Tryz.ntmps60
 go_upto_if 13 with fail
 go_cut [4] (fun u wx => u = .string S ∧ wx = w)
 case first =>
  cases sx
  ·go_wp2_with fail
   go_meet
   exact ⟨by rw [HS.out] <;> rfl, rfl⟩
  ·go_wp2_with fail
   go_meet
   exact ⟨by rw [HS.out] <;> rfl, rfl⟩
 case rest =>
  obtain ⟨rfl, rfl⟩ := hcut
  by_cases c0 : b = 0
  ·have HR : Hid (bl S ++ [48] = printF x) := Lib.hid (by rw [FB.out, if_neg (by unfold INF; omega), SB.out, c0]; rfl)
   have g0 : ((b : Int) == 0) = true := beq_iff_eq.2 (by omega)
   clear FB SB HS c0 CH
   go_wp2_with fail
   go_ret
   exact ⟨⟨_, rfl, by rw [bl_append, ← HR.out]; rfl⟩, Below.refl _ _⟩
  ·have g0 : ((b : Int) == 0) = false := beq_eq_false_iff_ne.2 (by omega)
   by_cases cI : b = INF
   ·have HR : Hid (bl S ++ [73, 110, 102, 105, 110, 105, 116, 121] = printF x) := Lib.hid (by rw [FB.out, if_neg (by omega), SB.out, cI, bodyF_inf])
    have gI : ((b : Int) == 9218868437227405312) = true := beq_iff_eq.2 (by unfold INF at cI; omega)
    clear FB SB HS c0 CH cI
    go_wp2_with fail
    go_ret
    exact ⟨⟨_, rfl, by rw [bl_append, ← HR.out]; rfl⟩, Below.refl _ _⟩
   ·have gI : ((b : Int) == 9218868437227405312) = false := beq_eq_false_iff_ne.2 (by unfold INF at cI; omega)
    by_cases cN : INF < b
    ·have HR : Hid (printF x = [78, 97, 78]) := Lib.hid (by rw [FB.out, if_pos cN])
     have gN : (9218868437227405312 : Int) < (b : Int) := by unfold INF at cN; omega
     clear FB SB HS c0 CH cI cN
     go_wp2_with fail
     go_ret
     exact ⟨⟨_, rfl, by rw [HR.out]; rfl⟩, Below.refl _ _⟩
    ·have gN : ¬ (9218868437227405312 : Int) < (b : Int) := by unfold INF at cN; omega
     obtain ⟨l1, l2, p1, p2⟩ := sh_range (b := b) (by omega) (by omega)
     have FIN : Hid (printF x = bl S ++ printD (shD b) (shP b)) := Lib.hid (by rw [FB.out, if_neg cN, SB.out]; unfold bodyF; rw [if_neg c0, if_neg cI])
     clear FB SB HS c0 cI cN
     obtain ⟨l, hl⟩ : ∃ l, l = shD b := ⟨_, rfl⟩
     rw [← hl] at CH l1 l2 FIN
     generalize shP b = p at *
     clear hl
     go_upto_region 13 with (go_at_call 107; refine (CH.out _).mono ?_; rintro e w2 ⟨⟨z, rfl, hz⟩, hb⟩; have B2 := Lib.hid hb; have Z := Lib.hid hz; clear hb hz)
     have zs : (z.size : Int) = (l.length : Int) := by rw [← bl_len, Z.out]
     have z1 : (1 : Int) ≤ (z.size : Int) := by omega
     have z2 : (z.size : Int) ≤ 18 := by omega
     clear CH g0 gI gN l1 l2
     by_cases q1 : (z.size : Int) ≤ p ∧ p ≤ 21
     ·obtain ⟨q1, q2⟩ := q1
      have E := Lib.hid (d1 (l := l) (p := p) (by omega) q2)
      have CR := Lib.hid (cZeros (p - (z.size : Int)) (by omega) (by omega))
      have ZS := Lib.hid zs
      clear zs
      go_wp2_with (go_at_call 108; refine (CR.out _).mono ?_; rintro e w3 ⟨⟨r, rfl, hr, rs⟩, rfl⟩; have R := Lib.hid hr; clear hr)
      go_ret
      exact ⟨⟨_, rfl, by rw [bl_append, bl_append, FIN.out, E.out, R.out, Z.out, ZS.out, List.append_assoc]⟩, B2.out⟩
     ·by_cases q2 : 1 ≤ p ∧ p ≤ 21
      ·obtain ⟨q2, q3⟩ := q2
       have q4 : ¬ (z.size : Int) ≤ p := by omega
       have E := Lib.hid (d2 (l := l) (p := p) (by omega) q2 q3)
       have q5 : p ≤ (z.size : Int) := by omega
       have q6 : 0 ≤ p := by omega
       have s1 : (z.extract 0 p.toNat).size = p.toNat := by rw [ByteArray.size_extract]; omega
       have s2 : (z.extract p.toNat z.size).size = z.size - p.toNat := by rw [ByteArray.size_extract]; omega
       have F1 := sl_to z p q6 q5
       have F2 := sl_from z p q6 q5
       clear q1 zs
       go_wp2_with fail
       go_quiet (fail)
       go_wp2_with fail
       go_ret
       exact ⟨⟨_, rfl, by simp only [bl_append, bl_to, bl_from, bl46, FIN.out, E.out, Z.out, List.append_assoc]⟩, BdN B2.out _⟩
      ·by_cases q3 : -5 ≤ p ∧ p ≤ 0
       ·obtain ⟨q3, q4⟩ := q3
        have q5 : ¬ (z.size : Int) ≤ p := by omega
        have q6 : ¬ (1 : Int) ≤ p := by omega
        have E := Lib.hid (d3 (l := l) (p := p) (by omega) q3 q4)
        have CR := Lib.hid (cZeros (-p) (by omega) (by omega))
        clear q1 q2 zs
        go_wp2_with (go_at_call 108; refine (CR.out _).mono ?_; rintro e w3 ⟨⟨r, rfl, hr, rs⟩, rfl⟩; have R := Lib.hid hr; clear hr)
        go_ret
        exact ⟨⟨_, rfl, by simp only [bl_append, bl0p, FIN.out, E.out, R.out, Z.out, List.append_assoc]⟩, B2.out⟩
       ·have F1 := sl_to z 1 (by omega) z1
        have F2 := sl_from z 1 (by omega) z1
        have s1 : (z.extract 0 1).size = 1 := by rw [ByteArray.size_extract]; omega
        have s2 : (z.extract 1 z.size).size = z.size - 1 := by rw [ByteArray.size_extract]; omega
        by_cases n5 : p < -5
        ·have q4 : ¬ (z.size : Int) ≤ p := by omega
         have q5 : ¬ (1 : Int) ≤ p := by omega
         have q6 : ¬ (-5 : Int) ≤ p := by omega
         by_cases h1 : 1 < l.length
         ·have z3 : (1 : Int) < (z.size : Int) := by omega
          have E := Lib.hid (d4 (l := l) (p := p) n5)
          rw [if_pos (by omega)] at E
          have CI := Lib.hid (cNum (1 - p) (by omega) (by omega))
          have q9 : ¬ (0 : Int) ≤ p - 1 := by omega
          clear q1 q2 q3 zs h1
          go_wp2_with (go_at_call 109; refine (CI.out _).mono ?_; rintro e w3 ⟨⟨r, rfl, hr, rs⟩, hb⟩; have R := Lib.hid hr; have B3 := Lib.hid (B2.out.trans (hb.mono B2.out.size)); clear hb hr)
          go_ret
          exact ⟨⟨_, rfl, by simp only [bl_append, bl_to, bl_from, bl46, blm, blp, E.out, R.out, Z.out, FIN.out, List.append_assoc, List.cons_append, List.nil_append, List.append_nil]⟩, B3.out⟩
         ·have z3 : ¬ (1 : Int) < (z.size : Int) := by omega
          have E := Lib.hid (d4 (l := l) (p := p) n5)
          rw [if_neg (by omega)] at E
          have CI := Lib.hid (cNum (1 - p) (by omega) (by omega))
          have q9 : ¬ (0 : Int) ≤ p - 1 := by omega
          clear q1 q2 q3 zs h1
          go_wp2_with (go_at_call 109; refine (CI.out _).mono ?_; rintro e w3 ⟨⟨r, rfl, hr, rs⟩, hb⟩; have R := Lib.hid hr; have B3 := Lib.hid (B2.out.trans (hb.mono B2.out.size)); clear hb hr)
          go_ret
          exact ⟨⟨_, rfl, by simp only [bl_append, bl_to, bl_from, bl46, blm, blp, E.out, R.out, Z.out, FIN.out, List.append_assoc, List.cons_append, List.nil_append, List.append_nil]⟩, B3.out⟩
        ·have n21 : 21 < p := by omega
         have q4 : (z.size : Int) ≤ p := by omega
         have q5 : (1 : Int) ≤ p := by omega
         have q6 : (-5 : Int) ≤ p := by omega
         have q7 : ¬ p ≤ 21 := by omega
         have q8 : ¬ p ≤ 0 := by omega
         clear n5
         by_cases h1 : 1 < l.length
         ·have z3 : (1 : Int) < (z.size : Int) := by omega
          have E := Lib.hid (d5 (l := l) (p := p) n21)
          rw [if_pos (by omega)] at E
          have CI := Lib.hid (cNum (p - 1) (by omega) (by omega))
          have q9 : (0 : Int) ≤ p - 1 := by omega
          clear q1 q2 q3 zs h1
          go_wp2_with (go_at_call 109; refine (CI.out _).mono ?_; rintro e w3 ⟨⟨r, rfl, hr, rs⟩, hb⟩; have R := Lib.hid hr; have B3 := Lib.hid (B2.out.trans (hb.mono B2.out.size)); clear hb hr)
          go_ret
          exact ⟨⟨_, rfl, by simp only [bl_append, bl_to, bl_from, bl46, blm, blp, E.out, R.out, Z.out, FIN.out, List.append_assoc, List.cons_append, List.nil_append, List.append_nil]⟩, B3.out⟩
         ·have z3 : ¬ (1 : Int) < (z.size : Int) := by omega
          have E := Lib.hid (d5 (l := l) (p := p) n21)
          rw [if_neg (by omega)] at E
          have CI := Lib.hid (cNum (p - 1) (by omega) (by omega))
          have q9 : (0 : Int) ≤ p - 1 := by omega
          clear q1 q2 q3 zs h1
          go_wp2_with (go_at_call 109; refine (CI.out _).mono ?_; rintro e w3 ⟨⟨r, rfl, hr, rs⟩, hb⟩; have R := Lib.hid hr; have B3 := Lib.hid (B2.out.trans (hb.mono B2.out.size)); clear hb hr)
          go_ret
          exact ⟨⟨_, rfl, by simp only [bl_append, bl_to, bl_from, bl46, blm, blp, E.out, R.out, Z.out, FIN.out, List.append_assoc, List.cons_append, List.nil_append, List.append_nil]⟩, B3.out⟩
end Go.Proofs.YtlgencbldbpbdaaGreatDoor.R
namespace Go.Proofs.YtlgencbldbpbdaaGreatDoor
open Go.RowKit Fl
theorem printF_len (x : Nat) : (printF x).length ≤ 61 := by
 unfold printF
 split
 ·simp
 ·next h =>
  have := bodyF_len (b := rg x) (by omega)
  rw [List.length_append]
  split <;> simp <;> omega
set_option maxRecDepth 100000 in
theorem k22_line (a b c d : Nat) (n : Int) (J : ByteArray) (l1 l2 l3 : Option Addr) (m1 m2 m3 c1 c2 c3 : Nat) (w : World) : Calls Tryz.prog 22 #[.agg #[.int .u8 108, .float .f64 a, .float .f64 b, .float .f64 c, .float .f64 d, .int .i64 n, .string J, .slice l1 m1 c1, .slice l2 m2 c2, .slice l3 m3 c3]] w fun e w' => (∃ s : ByteArray, e = .returned (.string s) ∧ bl s = textE .line) ∧ Below w.heap.size w w' := by
 go_enter Tryz.func22, Tryz.ntmps22
 go_wp2
 go_ret
 exact ⟨⟨_, rfl, rfl⟩, (Below.refl _ w).alloc (Nat.le_refl _) _⟩
set_option maxRecDepth 100000 in
set_option maxHeartbeats 2000000 in
theorem k22_curve (a b c d : Nat) (ha : U a) (hb : U b) (hc : U c) (hd : U d) (n : Int) (J : ByteArray) (l1 l2 l3 : Option Addr) (m1 m2 m3 c1 c2 c3 : Nat) (w : World) : Calls Tryz.prog 22 #[.agg #[.int .u8 99, .float .f64 a, .float .f64 b, .float .f64 c, .float .f64 d, .int .i64 n, .string J, .slice l1 m1 c1, .slice l2 m2 c2, .slice l3 m3 c3]] w fun e w' => (∃ s : ByteArray, e = .returned (.string s) ∧ bl s = textE (.curve a b c d)) ∧ Below w.heap.size w w' := by
 have HU := Lib.hid (And.intro ha (And.intro hb (And.intro hc hd)))
 obtain ⟨g, hg⟩ : ∃ g, g = w.heap.size := ⟨_, rfl⟩
 have HK : Hid (BK (w.alloc (.cells #[.int .u8 99, .float .f64 a, .float .f64 b, .float .f64 c, .float .f64 d, .int .i64 n, .string J, .slice l1 m1 c1, .slice l2 m2 c2, .slice l3 m3 c3] 43)) g #[.int .u8 99, .float .f64 a, .float .f64 b, .float .f64 c, .float .f64 d, .int .i64 n, .string J, .slice l1 m1 c1, .slice l2 m2 c2, .slice l3 m3 c3] 43 ∧ Below w.heap.size w (w.alloc (.cells #[.int .u8 99, .float .f64 a, .float .f64 b, .float .f64 c, .float .f64 d, .int .i64 n, .string J, .slice l1 m1 c1, .slice l2 m2 c2, .slice l3 m3 c3] 43))) := Lib.hid ⟨by rw [hg]; exact heap_alloc_new w _, (Below.refl _ w).alloc (Nat.le_refl _) _⟩
 clear ha hb hc hd
 go_enter Tryz.func22, Tryz.ntmps22
 go_upto_region 5 with fail
 refine wp_genY (fun wx => BK wx g #[.int .u8 99, .float .f64 a, .float .f64 b, .float .f64 c, .float .f64 d, .int .i64 n, .string J, .slice l1 m1 c1, .slice l2 m2 c2, .slice l3 m3 c3] 43 ∧ Below w.heap.size w wx) HK.out ?_
 intro wx SMx
 have H := Lib.hid SMx
 rw [← hg]
 clear HK SMx hg
 have LD : ∀ w', Below wx.heap.size wx w' → ∀ (j : Nat), w'.cell? ⟨g, j, none⟩ = #[Value.int .u8 99, .float .f64 a, .float .f64 b, .float .f64 c, .float .f64 d, .int .i64 n, .string J, .slice l1 m1 c1, .slice l2 m2 c2, .slice l3 m3 c3][j]? := fun w' hb j => (H.out.1.below hb).cell j
 have PR : ∀ x w', U x → Below wx.heap.size wx w' → Calls Tryz.prog 60 #[.float .f64 x] w' fun e w2 => ∃ v, e = .returned v ∧ (∀ y, #[Value.float .f64 x] = #[Value.float .f64 y] → ∃ s : ByteArray, v = .string s ∧ bl s = printF y ∧ s.size ≤ 61) ∧ Below wx.heap.size wx w2 := fun x w' hx hw =>
  (R.rPrint x w' hx).mono fun e w2 ⟨⟨s, he, h1⟩, hb⟩ => ⟨_, he, fun y hy => by
   simp only [Array.mk.injEq, List.cons.injEq, and_true, Value.float.injEq, true_and] at hy
   subst hy
   exact ⟨s, rfl, h1, by rw [← bl_len, h1]; exact printF_len _⟩, hw.trans (hb.mono hw.size)⟩
 refine wp_region_rel 20 (fun w' => Below wx.heap.size wx w') (fun _ args v => ∀ y, args = #[Value.float .f64 y] → ∃ s : ByteArray, v = .string s ∧ bl s = printF y ∧ s.size ≤ 61) (by kernel_rfl) (by kernel_rfl) ((Below.refl _ _).drew) ?_
 simp only [List.take_succ_cons, List.take_zero, List.drop_succ_cons, List.drop_zero]
 refine rel_val (v := .pointer (some ⟨g, 1, none⟩)) rfl (fun w' hw => by unfold execOp; go_simp) ?_
 simp only [Act.put, List.setIfInBounds_toArray, List.set_cons_succ, List.set_cons_zero]
 refine rel_val (v := .float .f64 a) rfl (fun w' hw => by
  have c := LD w' hw 1
  unfold execOp
  go_simp) ?_
 simp only [Act.put, List.setIfInBounds_toArray, List.set_cons_succ, List.set_cons_zero]
 refine rel_call rfl (f := 60) (args := #[.float .f64 a]) (fun w' hw => by unfold execOp; go_simp) (fun w' hw => PR a w' HU.out.1 hw) ?_
 intro v hv
 obtain ⟨s0, rfl, hs0, hz0⟩ := hv a rfl
 clear hv
 simp only [Act.put, List.setIfInBounds_toArray, List.set_cons_succ, List.set_cons_zero]
 refine rel_val (v := .string (⟨#[99, 117, 98, 105, 99, 45, 98, 101, 122, 105, 101, 114, 40]⟩ ++ s0)) rfl (fun w' hw => by unfold execOp; go_simp; omega) ?_
 simp only [Act.put, List.setIfInBounds_toArray, List.set_cons_succ, List.set_cons_zero]
 obtain ⟨t0, ht0⟩ : ∃ t0 : ByteArray, t0 = ⟨#[99, 117, 98, 105, 99, 45, 98, 101, 122, 105, 101, 114, 40]⟩ ++ s0 := ⟨_, rfl⟩
 have T0 := Lib.hid (show bl t0 = aCurve ++ printF a by rw [ht0, bl_append, bl_curve, hs0])
 have Z0 : t0.size ≤ 74 := by rw [ht0, ByteArray.size_append]; first | omega | (show _ + 2 ≤ _; omega) | (show _ + 1 ≤ _; omega) | (show 13 + _ ≤ _; omega)
 rw [← ht0]
 clear ht0
 refine rel_val (v := .string (t0 ++ ⟨#[44, 32]⟩)) rfl (fun w' hw => by unfold execOp; go_simp; omega) ?_
 simp only [Act.put, List.setIfInBounds_toArray, List.set_cons_succ, List.set_cons_zero]
 obtain ⟨t1, ht1⟩ : ∃ t1 : ByteArray, t1 = t0 ++ ⟨#[44, 32]⟩ := ⟨_, rfl⟩
 have T1 := Lib.hid (show bl t1 = aCurve ++ printF a ++ [44, 32] by rw [ht1, bl_append, T0.out, bl_comma])
 have Z1 : t1.size ≤ 76 := by rw [ht1, ByteArray.size_append]; first | omega | (show _ + 2 ≤ _; omega) | (show _ + 1 ≤ _; omega) | (show 13 + _ ≤ _; omega)
 rw [← ht1]
 clear ht1
 refine rel_val (v := .pointer (some ⟨g, 2, none⟩)) rfl (fun w' hw => by unfold execOp; go_simp) ?_
 simp only [Act.put, List.setIfInBounds_toArray, List.set_cons_succ, List.set_cons_zero]
 refine rel_val (v := .float .f64 b) rfl (fun w' hw => by
  have c := LD w' hw 2
  unfold execOp
  go_simp) ?_
 simp only [Act.put, List.setIfInBounds_toArray, List.set_cons_succ, List.set_cons_zero]
 refine rel_call rfl (f := 60) (args := #[.float .f64 b]) (fun w' hw => by unfold execOp; go_simp) (fun w' hw => PR b w' HU.out.2.1 hw) ?_
 intro v hv
 obtain ⟨s1, rfl, hs1, hz1⟩ := hv b rfl
 clear hv
 simp only [Act.put, List.setIfInBounds_toArray, List.set_cons_succ, List.set_cons_zero]
 refine rel_val (v := .string (t1 ++ s1)) rfl (fun w' hw => by unfold execOp; go_simp; omega) ?_
 simp only [Act.put, List.setIfInBounds_toArray, List.set_cons_succ, List.set_cons_zero]
 obtain ⟨t2, ht2⟩ : ∃ t2 : ByteArray, t2 = t1 ++ s1 := ⟨_, rfl⟩
 have T2 := Lib.hid (show bl t2 = aCurve ++ printF a ++ [44, 32] ++ printF b by rw [ht2, bl_append, T1.out, hs1])
 have Z2 : t2.size ≤ 137 := by rw [ht2, ByteArray.size_append]; first | omega | (show _ + 2 ≤ _; omega) | (show _ + 1 ≤ _; omega) | (show 13 + _ ≤ _; omega)
 rw [← ht2]
 clear ht2
 refine rel_val (v := .string (t2 ++ ⟨#[44, 32]⟩)) rfl (fun w' hw => by unfold execOp; go_simp; omega) ?_
 simp only [Act.put, List.setIfInBounds_toArray, List.set_cons_succ, List.set_cons_zero]
 obtain ⟨t3, ht3⟩ : ∃ t3 : ByteArray, t3 = t2 ++ ⟨#[44, 32]⟩ := ⟨_, rfl⟩
 have T3 := Lib.hid (show bl t3 = aCurve ++ printF a ++ [44, 32] ++ printF b ++ [44, 32] by rw [ht3, bl_append, T2.out, bl_comma])
 have Z3 : t3.size ≤ 139 := by rw [ht3, ByteArray.size_append]; first | omega | (show _ + 2 ≤ _; omega) | (show _ + 1 ≤ _; omega) | (show 13 + _ ≤ _; omega)
 rw [← ht3]
 clear ht3
 refine rel_val (v := .pointer (some ⟨g, 3, none⟩)) rfl (fun w' hw => by unfold execOp; go_simp) ?_
 simp only [Act.put, List.setIfInBounds_toArray, List.set_cons_succ, List.set_cons_zero]
 refine rel_val (v := .float .f64 c) rfl (fun w' hw => by
  have c := LD w' hw 3
  unfold execOp
  go_simp) ?_
 simp only [Act.put, List.setIfInBounds_toArray, List.set_cons_succ, List.set_cons_zero]
 refine rel_call rfl (f := 60) (args := #[.float .f64 c]) (fun w' hw => by unfold execOp; go_simp) (fun w' hw => PR c w' HU.out.2.2.1 hw) ?_
 intro v hv
 obtain ⟨s2, rfl, hs2, hz2⟩ := hv c rfl
 clear hv
 simp only [Act.put, List.setIfInBounds_toArray, List.set_cons_succ, List.set_cons_zero]
 refine rel_val (v := .string (t3 ++ s2)) rfl (fun w' hw => by unfold execOp; go_simp; omega) ?_
 simp only [Act.put, List.setIfInBounds_toArray, List.set_cons_succ, List.set_cons_zero]
 obtain ⟨t4, ht4⟩ : ∃ t4 : ByteArray, t4 = t3 ++ s2 := ⟨_, rfl⟩
 have T4 := Lib.hid (show bl t4 = aCurve ++ printF a ++ [44, 32] ++ printF b ++ [44, 32] ++ printF c by rw [ht4, bl_append, T3.out, hs2])
 have Z4 : t4.size ≤ 200 := by rw [ht4, ByteArray.size_append]; first | omega | (show _ + 2 ≤ _; omega) | (show _ + 1 ≤ _; omega) | (show 13 + _ ≤ _; omega)
 rw [← ht4]
 clear ht4
 refine rel_val (v := .string (t4 ++ ⟨#[44, 32]⟩)) rfl (fun w' hw => by unfold execOp; go_simp; omega) ?_
 simp only [Act.put, List.setIfInBounds_toArray, List.set_cons_succ, List.set_cons_zero]
 obtain ⟨t5, ht5⟩ : ∃ t5 : ByteArray, t5 = t4 ++ ⟨#[44, 32]⟩ := ⟨_, rfl⟩
 have T5 := Lib.hid (show bl t5 = aCurve ++ printF a ++ [44, 32] ++ printF b ++ [44, 32] ++ printF c ++ [44, 32] by rw [ht5, bl_append, T4.out, bl_comma])
 have Z5 : t5.size ≤ 202 := by rw [ht5, ByteArray.size_append]; first | omega | (show _ + 2 ≤ _; omega) | (show _ + 1 ≤ _; omega) | (show 13 + _ ≤ _; omega)
 rw [← ht5]
 clear ht5
 refine rel_val (v := .pointer (some ⟨g, 4, none⟩)) rfl (fun w' hw => by unfold execOp; go_simp) ?_
 simp only [Act.put, List.setIfInBounds_toArray, List.set_cons_succ, List.set_cons_zero]
 refine rel_val (v := .float .f64 d) rfl (fun w' hw => by
  have c := LD w' hw 4
  unfold execOp
  go_simp) ?_
 simp only [Act.put, List.setIfInBounds_toArray, List.set_cons_succ, List.set_cons_zero]
 refine rel_call rfl (f := 60) (args := #[.float .f64 d]) (fun w' hw => by unfold execOp; go_simp) (fun w' hw => PR d w' HU.out.2.2.2 hw) ?_
 intro v hv
 obtain ⟨s3, rfl, hs3, hz3⟩ := hv d rfl
 clear hv
 simp only [Act.put, List.setIfInBounds_toArray, List.set_cons_succ, List.set_cons_zero]
 refine rel_val (v := .string (t5 ++ s3)) rfl (fun w' hw => by unfold execOp; go_simp; omega) ?_
 simp only [Act.put, List.setIfInBounds_toArray, List.set_cons_succ, List.set_cons_zero]
 obtain ⟨t6, ht6⟩ : ∃ t6 : ByteArray, t6 = t5 ++ s3 := ⟨_, rfl⟩
 have T6 := Lib.hid (show bl t6 = aCurve ++ printF a ++ [44, 32] ++ printF b ++ [44, 32] ++ printF c ++ [44, 32] ++ printF d by rw [ht6, bl_append, T5.out, hs3])
 have Z6 : t6.size ≤ 263 := by rw [ht6, ByteArray.size_append]; first | omega | (show _ + 2 ≤ _; omega) | (show _ + 1 ≤ _; omega) | (show 13 + _ ≤ _; omega)
 rw [← ht6]
 clear ht6
 refine rel_val (v := .string (t6 ++ ⟨#[41]⟩)) rfl (fun w' hw => by unfold execOp; go_simp; omega) ?_
 simp only [Act.put, List.setIfInBounds_toArray, List.set_cons_succ, List.set_cons_zero]
 obtain ⟨t7, ht7⟩ : ∃ t7 : ByteArray, t7 = t6 ++ ⟨#[41]⟩ := ⟨_, rfl⟩
 have T7 := Lib.hid (show bl t7 = aCurve ++ printF a ++ [44, 32] ++ printF b ++ [44, 32] ++ printF c ++ [44, 32] ++ printF d ++ [41] by rw [ht7, bl_append, T6.out, bl_close])
 have Z7 : t7.size ≤ 264 := by rw [ht7, ByteArray.size_append]; first | omega | (show _ + 2 ≤ _; omega) | (show _ + 1 ≤ _; omega) | (show 13 + _ ≤ _; omega)
 rw [← ht7]
 clear ht7
 refine rel_nil ?_
 intro w' hw
 have HWW := Lib.hid hw
 clear hw
 go_wp2_with fail
 go_ret
 exact ⟨⟨_, rfl, T7.out⟩, H.out.2.trans (HWW.out.mono H.out.2.size)⟩
set_option maxRecDepth 100000 in
set_option maxHeartbeats 2000000 in
theorem k22_steps (a b c d : Nat) (n j : Nat) (hn : n ≤ 999999999) (J : ByteArray) (hJ : bl J = jName j) (hJ2 : J.size ≤ 10) (l1 l2 l3 : Option Addr) (m1 m2 m3 c1 c2 c3 : Nat) (w : World) : Calls Tryz.prog 22 #[.agg #[.int .u8 115, .float .f64 a, .float .f64 b, .float .f64 c, .float .f64 d, .int .i64 n, .string J, .slice l1 m1 c1, .slice l2 m2 c2, .slice l3 m3 c3]] w fun e w' => (∃ s : ByteArray, e = .returned (.string s) ∧ bl s = textE (.steps n j)) ∧ Below w.heap.size w w' := by
 obtain ⟨g, hg⟩ : ∃ g, g = w.heap.size := ⟨_, rfl⟩
 have HK : Hid (BK (w.alloc (.cells #[.int .u8 115, .float .f64 a, .float .f64 b, .float .f64 c, .float .f64 d, .int .i64 n, .string J, .slice l1 m1 c1, .slice l2 m2 c2, .slice l3 m3 c3] 43)) g #[.int .u8 115, .float .f64 a, .float .f64 b, .float .f64 c, .float .f64 d, .int .i64 n, .string J, .slice l1 m1 c1, .slice l2 m2 c2, .slice l3 m3 c3] 43 ∧ Below w.heap.size w (w.alloc (.cells #[.int .u8 115, .float .f64 a, .float .f64 b, .float .f64 c, .float .f64 d, .int .i64 n, .string J, .slice l1 m1 c1, .slice l2 m2 c2, .slice l3 m3 c3] 43))) := Lib.hid ⟨by rw [hg]; exact heap_alloc_new w _, (Below.refl _ w).alloc (Nat.le_refl _) _⟩
 have HJ := Lib.hid (And.intro hJ hJ2)
 have HN := Lib.hid hn
 clear hJ hJ2 hn
 go_enter Tryz.func22, Tryz.ntmps22
 go_upto_region 7 with fail
 refine wp_genY (fun wx => BK wx g #[.int .u8 115, .float .f64 a, .float .f64 b, .float .f64 c, .float .f64 d, .int .i64 n, .string J, .slice l1 m1 c1, .slice l2 m2 c2, .slice l3 m3 c3] 43 ∧ Below w.heap.size w wx) HK.out ?_
 intro wx SMx
 have H := Lib.hid SMx
 rw [← hg]
 clear HK SMx hg
 have LD : ∀ w', Below wx.heap.size wx w' → ∀ (j : Nat), w'.cell? ⟨g, j, none⟩ = #[Value.int .u8 115, .float .f64 a, .float .f64 b, .float .f64 c, .float .f64 d, .int .i64 n, .string J, .slice l1 m1 c1, .slice l2 m2 c2, .slice l3 m3 c3][j]? := fun w' hb j => (H.out.1.below hb).cell j
 refine wp_region_rel 9 (fun w' => Below wx.heap.size wx w') (fun _ _ v => ∃ s : ByteArray, v = .string s ∧ bl s = dgs n ∧ s.size ≤ 9) (by kernel_rfl) (by kernel_rfl) ((Below.refl _ _).drew) ?_
 simp only [List.take_succ_cons, List.take_zero, List.drop_succ_cons, List.drop_zero]
 refine rel_val (v := .pointer (some ⟨g, 5, none⟩)) rfl (fun w' hw => by unfold execOp; go_simp) ?_
 simp only [Act.put, List.setIfInBounds_toArray, List.set_cons_succ, List.set_cons_zero]
 refine rel_val (v := .int .i64 n) rfl (fun w' hw => by
  have c := LD w' hw 5
  unfold execOp
  go_simp) ?_
 simp only [Act.put, List.setIfInBounds_toArray, List.set_cons_succ, List.set_cons_zero]
 refine rel_call rfl (f := 61) (args := #[.int .i64 n]) (fun w' hw => by unfold execOp; go_simp) (fun w' hw => (k61 n HN.out w').mono fun e w2 ⟨⟨s, he, h1⟩, hb⟩ => ⟨_, he, ⟨s, rfl, h1, by rw [← bl_len, h1]; exact dgs9 HN.out⟩, hw.trans (hb.mono hw.size)⟩) ?_
 intro v hv
 obtain ⟨s0, rfl, hs0, hz0⟩ := hv
 simp only [Act.put, List.setIfInBounds_toArray, List.set_cons_succ, List.set_cons_zero]
 refine rel_val (v := .string (⟨#[115, 116, 101, 112, 115, 40]⟩ ++ s0)) rfl (fun w' hw => by unfold execOp; go_simp; omega) ?_
 simp only [Act.put, List.setIfInBounds_toArray, List.set_cons_succ, List.set_cons_zero]
 obtain ⟨t50, ht50⟩ : ∃ t50 : ByteArray, t50 = ⟨#[115, 116, 101, 112, 115, 40]⟩ ++ s0 := ⟨_, rfl⟩
 have T50 := Lib.hid (show bl t50 = aSteps ++ dgs n by rw [ht50, bl_append, bl_steps, hs0])
 have Z50 : t50.size ≤ 15 := by rw [ht50, ByteArray.size_append]; first | omega | (show _ + 2 ≤ _; omega) | (show _ + 1 ≤ _; omega) | (show 6 + _ ≤ _; omega)
 rw [← ht50]
 clear ht50
 refine rel_val (v := .string (t50 ++ ⟨#[44, 32]⟩)) rfl (fun w' hw => by unfold execOp; go_simp; omega) ?_
 simp only [Act.put, List.setIfInBounds_toArray, List.set_cons_succ, List.set_cons_zero]
 obtain ⟨t51, ht51⟩ : ∃ t51 : ByteArray, t51 = t50 ++ ⟨#[44, 32]⟩ := ⟨_, rfl⟩
 have T51 := Lib.hid (show bl t51 = aSteps ++ dgs n ++ [44, 32] by rw [ht51, bl_append, T50.out, bl_comma])
 have Z51 : t51.size ≤ 17 := by rw [ht51, ByteArray.size_append]; first | omega | (show _ + 2 ≤ _; omega) | (show _ + 1 ≤ _; omega) | (show 13 + _ ≤ _; omega)
 rw [← ht51]
 clear ht51
 refine rel_val (v := .pointer (some ⟨g, 6, none⟩)) rfl (fun w' hw => by unfold execOp; go_simp) ?_
 simp only [Act.put, List.setIfInBounds_toArray, List.set_cons_succ, List.set_cons_zero]
 refine rel_val (v := .string J) rfl (fun w' hw => by
  have c := LD w' hw 6
  unfold execOp
  go_simp) ?_
 simp only [Act.put, List.setIfInBounds_toArray, List.set_cons_succ, List.set_cons_zero]
 have hz1 := HJ.out.2
 refine rel_val (v := .string (t51 ++ J)) rfl (fun w' hw => by unfold execOp; go_simp; omega) ?_
 simp only [Act.put, List.setIfInBounds_toArray, List.set_cons_succ, List.set_cons_zero]
 obtain ⟨t52, ht52⟩ : ∃ t52 : ByteArray, t52 = t51 ++ J := ⟨_, rfl⟩
 have T52 := Lib.hid (show bl t52 = aSteps ++ dgs n ++ [44, 32] ++ jName j by rw [ht52, bl_append, T51.out, HJ.out.1])
 have Z52 : t52.size ≤ 27 := by rw [ht52, ByteArray.size_append]; first | omega | (show _ + 2 ≤ _; omega) | (show _ + 1 ≤ _; omega) | (show 13 + _ ≤ _; omega)
 rw [← ht52]
 clear ht52
 refine rel_val (v := .string (t52 ++ ⟨#[41]⟩)) rfl (fun w' hw => by unfold execOp; go_simp; omega) ?_
 simp only [Act.put, List.setIfInBounds_toArray, List.set_cons_succ, List.set_cons_zero]
 obtain ⟨t53, ht53⟩ : ∃ t53 : ByteArray, t53 = t52 ++ ⟨#[41]⟩ := ⟨_, rfl⟩
 have T53 := Lib.hid (show bl t53 = aSteps ++ dgs n ++ [44, 32] ++ jName j ++ [41] by rw [ht53, bl_append, T52.out, bl_close])
 have Z53 : t53.size ≤ 28 := by rw [ht53, ByteArray.size_append]; first | omega | (show _ + 2 ≤ _; omega) | (show _ + 1 ≤ _; omega) | (show 13 + _ ≤ _; omega)
 rw [← ht53]
 clear ht53
 refine rel_nil ?_
 intro w' hw
 have HWW := Lib.hid hw
 clear hw
 go_wp2_with fail
 go_ret
 exact ⟨⟨_, rfl, T53.out⟩, H.out.2.trans (HWW.out.mono H.out.2.size)⟩
end Go.Proofs.YtlgencbldbpbdaaGreatDoor
namespace Go.Proofs.YtlgencbldbpbdaaGreatDoor
open Go.RowKit Fl
theorem joinN_snoc : ∀ (l : List (List Nat)) (x : List Nat), joinN (l ++ [x]) = if l = [] then x else joinN l ++ [44, 32] ++ x
 | [], x => rfl
 | [a], x => by rw [if_neg (by simp)]; rfl
 | a :: b :: l, x => by
   have ih := joinN_snoc (b :: l) x
   rw [if_neg (by simp)] at ih
   rw [if_neg (by simp)]
   show a ++ [44, 32] ++ joinN (b :: l ++ [x]) = a ++ [44, 32] ++ joinN (b :: l) ++ [44, 32] ++ x
   rw [ih]
   simp [List.append_assoc]
theorem ptT_take {p : Nat × List Nat} {m q : Nat} (h : p.2[m]? = some q) : ptT (p.1, p.2.take (m + 1)) = ptT (p.1, p.2.take m) ++ [32] ++ printF q ++ [37] := by
 unfold ptT
 rw [List.take_add_one, h, List.flatMap_append]
 simp [List.append_assoc]
theorem ptT_all (p : Nat × List Nat) : ptT (p.1, p.2.take p.2.length) = ptT p := by rw [List.take_length]
theorem FSl.below {w w' : World} {v : Value} {qs : List Nat} (h : FSl w v qs) (hb : Below w.heap.size w w') : FSl w' v qs := by
 rcases h with h | ⟨g, c, h1, h2, h3⟩
 ·exact .inl h
 ·exact .inr ⟨g, c, h1, Nat.lt_of_lt_of_le h2 hb.size, fun j q hq => (hb.cell (p := ⟨g, j, none⟩) h2).trans (h3 j q hq)⟩
theorem PtsAt.below {w w' : World} {v : Value} {ps : List (Nat × List Nat)} (h : PtsAt w v ps) (hb : Below w.heap.size w w') : PtsAt w' v ps := by
 obtain ⟨A, c, h1, h2, h3⟩ := h
 refine ⟨A, c, h1, Nat.lt_of_lt_of_le h2 hb.size, fun k p hk => ?_⟩
 obtain ⟨h4, u, h5, h6⟩ := h3 k p hk
 exact ⟨(hb.cell (p := ⟨A, k * 2, none⟩) h2).trans h4, u, (hb.cell (p := ⟨A, k * 2 + 1, none⟩) h2).trans h5, h6.below hb⟩
theorem FSl.slice {w : World} {v : Value} {qs : List Nat} (h : FSl w v qs) : ∃ a c, v = .slice a qs.length c ∧ ∀ (j q : Nat), qs[j]? = some q → ∃ g, a = some ⟨g, 0, none⟩ ∧ w.cell? ⟨g, j, none⟩ = some (.float .f64 q) := by
 rcases h with ⟨rfl, h⟩ | ⟨g, c, h1, h2, h3⟩
 ·exact ⟨none, 0, h, fun j q hj => by cases hj⟩
 ·exact ⟨_, c, h1, fun j q hj => ⟨g, rfl, h3 j q hj⟩⟩
set_option maxRecDepth 100000 in
set_option maxHeartbeats 4000000 in
theorem k22_pts (a b c d : Nat) (n : Int) (J : ByteArray) (A : Nat) (l2 l3 : Option Addr) (m2 m3 c1 c2 c3 : Nat) (ps : List (Nat × List Nat)) (w : World) (hP : PtsAt w (.slice (some ⟨A, 0, none⟩) ps.length c1) ps) (hok : ∀ p ∈ ps, OP p) (hl : ps.length ≤ 100) : Calls Tryz.prog 22 #[.agg #[.int .u8 112, .float .f64 a, .float .f64 b, .float .f64 c, .float .f64 d, .int .i64 n, .string J, .slice (some ⟨A, 0, none⟩) ps.length c1, .slice l2 m2 c2, .slice l3 m3 c3]] w fun e w' => (∃ s : ByteArray, e = .returned (.string s) ∧ bl s = textE (.pts ps)) ∧ Below w.heap.size w w' := by
 obtain ⟨g, hg⟩ : ∃ g, g = w.heap.size := ⟨_, rfl⟩
 obtain ⟨N, hN⟩ : ∃ N, N = ps.length := ⟨_, rfl⟩
 rw [← hN] at hP hl ⊢
 have HN := Lib.hid (And.intro hN hl)
 obtain ⟨V, hV⟩ : ∃ V : Array Value, V = #[.int .u8 112, .float .f64 a, .float .f64 b, .float .f64 c, .float .f64 d, .int .i64 n, .string J, .slice (some ⟨A, 0, none⟩) N c1, .slice l2 m2 c2, .slice l3 m3 c3] := ⟨_, rfl⟩
 have HK : Hid (BK (w.alloc (.cells #[.int .u8 112, .float .f64 a, .float .f64 b, .float .f64 c, .float .f64 d, .int .i64 n, .string J, .slice (some ⟨A, 0, none⟩) N c1, .slice l2 m2 c2, .slice l3 m3 c3] 43)) g V 43 ∧ Below w.heap.size w (w.alloc (.cells #[.int .u8 112, .float .f64 a, .float .f64 b, .float .f64 c, .float .f64 d, .int .i64 n, .string J, .slice (some ⟨A, 0, none⟩) N c1, .slice l2 m2 c2, .slice l3 m3 c3] 43))) := Lib.hid ⟨by rw [hg, hV]; exact heap_alloc_new w _, (Below.refl _ w).alloc (Nat.le_refl _) _⟩
 have V7 : Hid (V[7]? = some (.slice (some ⟨A, 0, none⟩) N c1)) := Lib.hid (by rw [hV]; rfl)
 have HPT := Lib.hid (And.intro hP hok)
 clear hP hok hN hl hV
 go_enter Tryz.func22, Tryz.ntmps22
 go_upto_region 8 with fail
 refine wp_genY (fun wx => BK wx g V 43 ∧ Below w.heap.size w wx) HK.out ?_
 intro wx SMx
 have H := Lib.hid SMx
 rw [← hg]
 clear HK SMx hg
 have Z0 : Hid (bl ⟨#[108, 105, 110, 101, 97, 114, 40]⟩ = aPts ++ joinN ((ps.take 0).map ptT) ∧ (⟨#[108, 105, 110, 101, 97, 114, 40]⟩ : ByteArray).size ≤ 7 + 300 * 0) := Lib.hid ⟨rfl, by decide⟩
 go_wp2_with fail
 go_loopw [3, 4] (fun sv i wy => ∃ (k : Nat) (t : ByteArray), i = .int .i64 k ∧ sv = .string t ∧ Hid (k ≤ N ∧ bl t = aPts ++ joinN ((ps.take k).map ptT) ∧ t.size ≤ 7 + 300 * k) ∧ Hid (Below wx.heap.size wx wy)) (fun _ i _ => N - (Lib.intOf i).toNat)
 case atStart => exact ⟨0, _, rfl, rfl, Lib.hid ⟨Nat.zero_le _, Z0.out⟩, Lib.hid (Below.refl _ _)⟩
 case round =>
  clear Z0
  obtain ⟨k, t, rfl, rfl, hT, hB⟩ := hrel
  have z7 := ((H.out.1.below hB.out).cell 7).trans V7.out
  by_cases hlt : k < N
  ·have hki : (k : Int) < (N : Int) := by omega
   have k0 : (0 : Int) ≤ (k : Int) := Int.natCast_nonneg k
   obtain ⟨p, hp⟩ : ∃ p, ps[k]? = some p := ⟨ps[k]'(by have := HN.out.1; omega), List.getElem?_eq_getElem _⟩
   have OPp := HPT.out.2 p (List.mem_of_getElem? hp)
   obtain ⟨A', cA, eA, -, hA⟩ := (HPT.out.1.below H.out.2).below hB.out
   injection eA with e1 e2 e3
   injection e1 with e1
   injection e1 with e1
   subst e1
   clear e2 e3
   obtain ⟨kc0, u, kc1, hu⟩ := hA k p hp
   obtain ⟨pa, pc, rfl, hpa⟩ := hu.slice
   obtain ⟨M, hM⟩ : ∃ M, M = p.2.length := ⟨_, rfl⟩
   rw [← hM] at kc1
   have HM : Hid (M = p.2.length ∧ M ≤ 2) := Lib.hid ⟨hM, by rw [hM]; exact OPp.2.1⟩
   have CP := Lib.hid (fun (x : Nat) (w1 : World) (hx : U x) => R.rPrint x w1 hx)
   have FWp := Lib.hid (And.intro OPp.1.1 (fun q hq => (OPp.2.2 q hq).1))
   have HPA := Lib.hid hpa
   have KC := Lib.hid (And.intro (World.block_lt_of_cell? wr _ kc1) kc1)
   have hk0' : (0 : Int) ≤ (k : Int) := Int.natCast_nonneg k
   have hkN : (k : Int) < (N : Int) := by omega
   have HL := Lib.hid hlt
   have TK := Lib.hid (show (ps.take (k + 1)).map ptT = (ps.take k).map ptT ++ [ptT p] by rw [List.take_add_one, hp, List.map_append]; rfl)
   have BWk := Lib.hid hB.out
   clear hp hlt OPp hA hu hpa hM
   go_upto_if 51 with fail
   go_cut [3] (fun sv wy => ∃ t1 : ByteArray, sv = .string t1 ∧ Hid (bl t1 ++ ptT p = aPts ++ joinN ((ps.take (k + 1)).map ptT) ∧ t1.size ≤ 9 + 300 * k) ∧ wy = wr)
   case first =>
    by_cases hk0 : k = 0
    ·have c0 : ¬ (k : Int) > 0 := by omega
     have E : Hid (bl t ++ ptT p = aPts ++ joinN ((ps.take (k + 1)).map ptT) ∧ t.size ≤ 9 + 300 * k) := Lib.hid ⟨by
      rw [TK.out, joinN_snoc, hT.out.2.1, hk0]
      show aPts ++ [] ++ ptT p = aPts ++ ptT p
      rw [List.append_nil], by have := hT.out.2.2; omega⟩
     clear hk0
     go_wp2_with fail
     go_meet
     exact ⟨_, rfl, E, rfl⟩
    ·have c0 : (k : Int) > 0 := by omega
     have f1 : ¬ 9223372036854775807 < t.size + 2 := by have h1 := hT.out.2.2; have h2 := hT.out.1; have h3 := HN.out; omega
     have E : Hid (bl (t ++ ⟨#[44, 32]⟩) ++ ptT p = aPts ++ joinN ((ps.take (k + 1)).map ptT) ∧ (t ++ ⟨#[44, 32]⟩ : ByteArray).size ≤ 9 + 300 * k) := Lib.hid ⟨by
      have hne : (ps.take k).map ptT ≠ [] := fun e => by
       have := congrArg List.length e
       rw [List.length_map, List.length_take] at this
       have h1 := HL.out
       have h2 := HN.out.1
       rw [List.length_nil] at this
       omega
      rw [TK.out, joinN_snoc, if_neg hne, bl_append, hT.out.2.1, bl_comma]
      simp [List.append_assoc], by
      have h1 := hT.out.2.2
      rw [← bl_len, bl_append, List.length_append, bl_len, bl_comma]
      show t.size + 2 ≤ _
      omega⟩
     clear hk0
     go_wp2_with fail
     go_meet
     exact ⟨_, rfl, E, rfl⟩
   case rest =>
   obtain ⟨t1, rfl, hE, hw⟩ := hcut
   have hw' := hw.symm
   clear hw
   subst hw'
   have f61 : ∀ z : ByteArray, z.size ≤ 61 → ¬ 9223372036854775807 < t1.size + z.size := fun z hz => by have h1 := hE.out.2; have h2 := HL.out; have h3 := HN.out.2; omega
   have F61 := Lib.hid f61
   clear f61
   go_upto_region 15 with (go_at_call 60; refine (CP.out _ _ FWp.out.1).mono ?_; rintro e w2 ⟨⟨z, rfl, hz⟩, hb⟩; have HZ := Lib.hid hz; have B2 := Lib.hid hb; have fz := F61.out z (by rw [← bl_len, hz]; exact printF_len _); have z61 := Lib.hid (show z.size ≤ 61 by rw [← bl_len, hz]; exact printF_len _); clear hz hb)
   have S0 : Hid (bl (t1 ++ z) = bl t1 ++ ptT (p.1, p.2.take 0) ∧ (t1 ++ z).size ≤ t1.size + 61 + 63 * 0) := Lib.hid ⟨by rw [bl_append, HZ.out]; unfold ptT; simp, by rw [ByteArray.size_append]; have := z61.out; omega⟩
   have B3 := Lib.hid (hB.out.trans (B2.out.mono hB.out.size))
   clear z7 kc0 kc1 fz hki k0
   have hkN' : (k : Int) < (N : Int) := hkN
   obtain ⟨wo, hwo⟩ : ∃ x : World, x = wr := ⟨_, rfl⟩
   subst hwo
   go_wp2_with fail
   go_loopw [3, 5] (fun sv i wy => ∃ (m : Nat) (t3 : ByteArray), i = .int .i64 m ∧ sv = .string t3 ∧ Hid (m ≤ M ∧ bl t3 = bl t1 ++ ptT (p.1, p.2.take m) ∧ t3.size ≤ t1.size + 61 + 63 * m) ∧ Hid (Below wx.heap.size wx wy ∧ Below w2.heap.size w2 wy)) (fun _ i _ => M - (Lib.intOf i).toNat)
   case atStart => exact ⟨0, _, rfl, rfl, Lib.hid ⟨Nat.zero_le _, S0.out⟩, Lib.hid ⟨B3.out, Below.refl _ _⟩⟩
   case round =>
    clear S0
    obtain ⟨m, t3, rfl, rfl, hU, hC⟩ := hrel
    have z7 := ((H.out.1.below hC.out.1).cell 7).trans V7.out
    have BY : Below wo.heap.size wo wr := B2.out.trans (hC.out.2.mono B2.out.size)
    have kc1 := (BY.cell (p := ⟨A, k * 2 + 1, none⟩) KC.out.1).trans KC.out.2
    by_cases hm : m < M
    ·have hmi : (m : Int) < (M : Int) := by omega
     have hm0 : (0 : Int) ≤ (m : Int) := Int.natCast_nonneg m
     obtain ⟨q, hq⟩ : ∃ q, p.2[m]? = some q := ⟨p.2[m]'(by have := HM.out.1; omega), List.getElem?_eq_getElem _⟩
     obtain ⟨gp, rfl, kq⟩ := HPA.out m q hq
     have kq1 := (BY.cell (p := ⟨gp, m, none⟩) (World.block_lt_of_cell? wo _ kq)).trans kq
     have uq := FWp.out.2 q (List.mem_of_getElem? hq)
     have T3 := Lib.hid (ptT_take hq)
     have fs : ∀ y : ByteArray, y.size ≤ 61 → ¬ 9223372036854775807 < t3.size + 1 ∧ ¬ 9223372036854775807 < t3.size + 1 + y.size ∧ ¬ 9223372036854775807 < t3.size + 1 + y.size + 1 := fun y hy => by have h1 := hE.out.2; have h2 := HL.out; have h3 := HN.out.2; have h4 := hU.out.2.2; have h5 := HM.out.2; omega
     have FS := Lib.hid fs
     have f0 := (fs ByteArray.empty (by decide)).1
     have HMm := Lib.hid hm
     clear hq kq fs hm
     go_wp2_with (go_at_call 60; refine (CP.out _ _ uq).mono ?_; rintro e w4 ⟨⟨y, rfl, hy⟩, hb⟩; have HY := Lib.hid hy; have B4 := Lib.hid hb; have y61 := Lib.hid (show y.size ≤ 61 by rw [← bl_len, hy]; exact printF_len _); obtain ⟨f1, f2, f3⟩ := FS.out y y61.out; clear hy hb)
     go_roundw
     case rel =>
      refine ⟨m + 1, _, by first | rw [wrap_next HMm.out (by have := HM.out.2; omega)] | rfl, rfl, Lib.hid ⟨HMm.out, ?_, ?_⟩, Lib.hid ⟨hC.out.1.trans (B4.out.mono hC.out.1.size), hC.out.2.trans (B4.out.mono hC.out.2.size)⟩⟩
      ·rw [bl_append, bl_append, bl_append, hU.out.2.1, HY.out, T3.out]
       show bl t1 ++ ptT (p.1, p.2.take m) ++ [32] ++ printF q ++ [37] = _
       simp [List.append_assoc]
      ·rw [ByteArray.size_append, ByteArray.size_append, ByteArray.size_append]
       show t3.size + 1 + y.size + 1 ≤ _
       have h1 := hU.out.2.2; have h2 := y61.out; omega
     case measure =>
      first
       | exact meas_next HMm.out
       | (rw [wrap_next HMm.out (by have := HM.out.2; omega)]; exact meas_next HMm.out)
    ·have hmi : ¬ (m : Int) < (M : Int) := by omega
     have E2 : Hid (k + 1 ≤ N ∧ bl t3 = aPts ++ joinN ((ps.take (k + 1)).map ptT) ∧ t3.size ≤ 7 + 300 * (k + 1)) := Lib.hid (by
      obtain ⟨h1, h2, h3⟩ := hU.out
      have e : m = p.2.length := by have := HM.out.1; omega
      refine ⟨HL.out, ?_, by have h4 := hE.out.2; have h5 := HM.out.2; omega⟩
      rw [h2, e, ptT_all, hE.out.1])
     clear hm
     go_wp2_with fail
     go_roundw
     case rel => exact ⟨k + 1, t3, by first | rw [wrap_next HL.out (by have := HN.out.2; omega)] | rfl, rfl, E2, Lib.hid hC.out.1⟩
     case measure =>
      first
       | exact meas_next HL.out
       | (rw [wrap_next HL.out (by have := HN.out.2; omega)]; exact meas_next HL.out)
  ·have hki : ¬ (k : Int) < (N : Int) := by omega
   have T1 : Hid (bl t = aPts ++ joinN (ps.map ptT) ∧ t.size ≤ 40000) := Lib.hid (by
    obtain ⟨h1, h2, h3⟩ := hT.out
    have := HN.out
    rw [List.take_of_length_le (by omega)] at h2
    exact ⟨h2, by omega⟩)
   have f1 : ¬ 9223372036854775807 < t.size + 1 := by have := T1.out.2; omega
   clear hlt hT
   go_wp2_with fail
   go_ret
   exact ⟨⟨_, rfl, by rw [bl_append, T1.out.1, bl_close]; rfl⟩, H.out.2.trans (hB.out.mono H.out.2.size)⟩
end Go.Proofs.YtlgencbldbpbdaaGreatDoor
