/- For digits.Shortest: plain laws and contracts in the form of its walk. digits.Shortest: the walk. strings.Repeat and strconv.Itoa off the shelf. digits.Print: what it prints, in plain words; contracts of what it calls. digits.Print: the walk. digits.Print of any number. -/
import Derived.Test.YtlgencbldbpbdaaGreatDoorDmH
import Derived.Test.YtlgencbldbpbdaaGreatDoorMgBase
import Derived.Test.YtlgencbldbpbdaaGreatDoorMgDkC
import Derived.Deep.DeepCutAuto
import Derived.Deep.CutBlock
import Derived.Test.YtlgencbldbpbdaaGreatDoorSh
import Derived.BigQuiet
namespace Go.Proofs.YtlgencbldbpbdaaGreatDoor
open Go.RowKit Fl
theorem powN : Tryz.prog.globalNamed "internal/strconv.uint64pow10" = some 3 := by kernel_rfl
theorem PowTab.below {w wx : World} (h : PowTab w) (hb : Below w.heap.size w wx) : PowTab wx := Go.Joins.tab_stays powN h hb (Nat.le_refl _)
theorem cls_out {x : Nat} (hx : U x) : (rg x = 0 ∧ pCls x = 0) ∨ (INF ≤ rg x ∧ (pCls x = 3 ∨ pCls x = 4)) ∨ (0 < rg x ∧ rg x < INF ∧ (pCls x = 1 ∨ pCls x = 2)) := by
 unfold pCls eM fM rg INF
 have : x < 18446744073709551616 := hx.lt
 split
 ·split
  ·right; left; exact ⟨by omega, .inl rfl⟩
  ·right; left; exact ⟨by omega, .inr rfl⟩
 ·split
  ·split
   ·left; exact ⟨by omega, rfl⟩
   ·right; right; exact ⟨by omega, by omega, .inl rfl⟩
  ·right; right; exact ⟨by omega, by omega, .inr rfl⟩
theorem one_word {w : World} {v : Value} {q : Nat} (h : NV w v q) (h0 : 0 < q) (h1 : q < BB) : ∃ b o c, v = .slice (some ⟨b, o, none⟩) 1 c ∧ 1 ≤ c ∧ c ≤ maxLen ∧ b < w.heap.size ∧ w.cell? ⟨b, o, none⟩ = some (.int .u64 q) := by
 obtain ⟨l, hl, hc, hv⟩ := h
 have e : l = [q] := by
  rcases l with _ | ⟨x, l⟩
  ·have : q = 0 := hv.symm; omega
  ·rcases l with _ | ⟨y, l⟩
   ·rw [val, val, Nat.mul_zero, Nat.add_zero] at hv
    rw [hv]
   ·exfalso
    have h2 := len_small hl.1 hc (n := 1) (by rw [hv]; exact blen_lt _ _ h1)
    simp at h2
 subst e
 obtain ⟨b, o, c, e, h2, h3, h4⟩ := hl.addr (by simp)
 exact ⟨b, o, c, e, h2, h3, h4.1, h4.2 0 q rfl⟩
theorem quo_scale {A B v : Nat} {p : Int} {n : Nat} (hB : 0 < B) (h : A * TK = v * B) :
  A * 10 ^ (n - p).toNat / (B * 10 ^ (p - n).toNat) = qS v p n ∧ A * 10 ^ (n - p).toNat % (B * 10 ^ (p - n).toNat) * TK = rS v p n * B ∧ B * 10 ^ (p - n).toNat * TK = denS p n * B := by
 have e1 : A * 10 ^ (n - p).toNat * TK = numS v p n * B := by
  unfold numS; rw [Nat.mul_right_comm, h, Nat.mul_right_comm]
 have e2 : B * 10 ^ (p - n).toNat * TK = denS p n * B := by
  unfold denS; rw [Nat.mul_right_comm, Nat.mul_comm B TK, Nat.mul_right_comm]
 refine ⟨?_, ?_, e2⟩
 ·unfold qS
  rw [← Nat.mul_div_mul_right _ _ TK_pos, e1, e2, Nat.mul_div_mul_right _ _ hB]
 ·unfold rS
  rw [← Nat.mul_mod_mul_right, e1, e2, Nat.mul_mod_mul_right]
theorem sel_by {b n q D R B : Nat} {p : Int} (hB : 0 < B) (hq : q = qS (V b) p n) (hR : R * TK = rS (V b) p n * B) (hD : D * TK = denS p n * B) (hlt : R < D) :
  selS b p n = if rdS b p n q = true then (if rdS b p n (q + 1) = true ∧ (D - R < R ∨ (D - R = R ∧ (q + 1) % 2 = 0)) then some (q + 1) else some q) else if rdS b p n (q + 1) = true then some (q + 1) else none := by
 have h1 : denS p n < 2 * rS (V b) p n ↔ D - R < R := by
  constructor
  ·intro c
   have c2 : denS p n * B < 2 * rS (V b) p n * B := Nat.mul_lt_mul_of_pos_right c hB
   rw [← hD, Nat.mul_assoc, ← hR, ← Nat.mul_assoc] at c2
   have := Nat.lt_of_mul_lt_mul_right c2
   omega
  ·intro c
   have c2 : D * TK < 2 * R * TK := Nat.mul_lt_mul_of_pos_right (by omega) TK_pos
   rw [hD, Nat.mul_assoc, hR, ← Nat.mul_assoc] at c2
   exact Nat.lt_of_mul_lt_mul_right c2
 have h2 : denS p n = 2 * rS (V b) p n ↔ D - R = R := by
  constructor
  ·intro c
   have c2 : denS p n * B = 2 * rS (V b) p n * B := by rw [c]
   rw [← hD, Nat.mul_assoc, ← hR, ← Nat.mul_assoc] at c2
   have := Nat.eq_of_mul_eq_mul_right TK_pos c2
   omega
  ·intro c
   have c2 : D * TK = 2 * R * TK := by rw [show D = 2 * R by omega]
   rw [hD, Nat.mul_assoc, hR, ← Nat.mul_assoc] at c2
   exact Nat.eq_of_mul_eq_mul_right hB c2
 have h3 : (q + 1) % 2 = 0 ↔ q % 2 = 1 := by omega
 subst hq
 unfold selS
 simp only [h1, h2, h3]
def pick2 (M0 M1 : Bool) (q : Nat) (T : Prop) [Decidable T] : Option Nat := if M0 = false then (if M1 = false ∧ T then some (q + 1) else some q) else if M1 = false then some (q + 1) else none
theorem sel_pick {b n q D R B : Nat} {p : Int} {M0 M1 : Bool} (hB : 0 < B) (hq : q = qS (V b) p n) (hR : R * TK = rS (V b) p n * B) (hD : D * TK = denS p n * B) (hlt : R < D) (m0 : M0 = !rdS b p n q) (m1 : M1 = !rdS b p n (q + 1)) :
  selS b p n = pick2 M0 M1 q (D - R < R ∨ (D - R = R ∧ (q + 1) % 2 = 0)) := by
 rw [sel_by hB hq hR hD hlt]
 unfold pick2
 rw [m0, m1]
 simp only [Bool.not_eq_false']
theorem cRd {b n d : Nat} {p : Int} (h0 : 0 < b) (h1 : b < INF) (p1 : -359 ≤ p) (p2 : p ≤ 350) (n1 : 1 ≤ n) (n2 : n ≤ 17) (d0 : 0 < d) (d1 : d ≤ 100000000000000000) :
  ∀ (w : World) (z : ByteArray), bl z = trimD (dgs d) → Calls Tryz.prog 192 #[.string z, .int .i64 (p + Lib.nDigits d - n)] w fun e w' => (∃ y, e = .returned (.float .f64 y) ∧ (FloatKind.f64.format.order y b != some Ordering.eq) = !rdS b p n d) ∧ Below w.heap.size w w' := by
 intro w z hz
 have nd : Lib.nDigits d ≤ 18 := nd_le (by have : (10 : Nat) ^ 18 = 1000000000000000000 := by decide
                                           omega) (by decide)
 have nd1 : 0 < Lib.nDigits d := by rw [← dgs_len]; exact List.length_pos_iff.2 (dgs_ne d)
 have hl : (trimD (dgs d)).length ≤ 18 := by
  unfold trimD
  rw [List.length_take, dgs_len]; omega
 have hdg : DG (bl z) := by
  rw [hz]
  intro x hx
  exact dgs_dg d x (List.mem_of_mem_take hx)
 refine (lRead z (p + Lib.nDigits d - n) w hdg (by rw [← bl_len, hz]; omega) (by omega)).mono ?_
 rintro e w' ⟨rfl, hb⟩
 refine ⟨⟨_, rfl, ?_⟩, hb⟩
 have hle := readF_le (bl z) (p + Lib.nDigits d - n)
 have e1 : readF (bl z) (p + Lib.nDigits d - n) = rungM (d * 10 ^ (p - n).toNat * TK) (10 ^ (n - p).toNat) := by
  rw [hz, read_dgs d0 (by omega) (by omega) (by omega), show p + (Lib.nDigits d : Int) - n - Lib.nDigits d = p - n by omega, show (-(p - (n : Int))).toNat = ((n : Int) - p).toNat by omega]
  rfl
 unfold rdS
 rw [← e1]
 generalize readF (bl z) (p + Lib.nDigits d - n) = y at *
 rw [ord_pos hle (Nat.le_of_lt h1), compare_int]
 by_cases c : y = b
 ·subst c
  rw [if_neg (by omega), if_pos rfl, decide_eq_true rfl]; rfl
 ·rw [decide_eq_false c]
  rcases Nat.lt_or_gt_of_ne c with c | c
  ·rw [if_pos (by omega)]; rfl
  ·rw [if_neg (by omega), if_neg (by omega)]; rfl
theorem cTrim (s : ByteArray) (w : World) (d : Nat) (d1 : d ≤ 100000000000000000) (hs : bl s = dgs d) :
  Calls Tryz.prog 191 #[.string s, .string ⟨#[48]⟩] w fun e w' => (∃ z : ByteArray, e = .returned (.string z) ∧ bl z = trimD (dgs d)) ∧ w = w' := by
 have nd : Lib.nDigits d ≤ 18 := nd_le (by have : (10 : Nat) ^ 18 = 1000000000000000000 := by decide
                                           omega) (by decide)
 have sz : s.size = Lib.nDigits d := by rw [← bl_len, hs, dgs_len]
 refine (lTrimR s w (by omega)).mono ?_
 rintro e w' ⟨⟨z, rfl, hz⟩, rfl⟩
 refine ⟨⟨z, rfl, ?_⟩, rfl⟩
 rw [hz, hs, sz]
 unfold trimD
 rw [dgs_len]
theorem te_pos {l : List Nat} (h0 : l.getD 0 0 ≠ 48) : ∀ k, 0 < k → 0 < te l 0 k
 | k + 1, _ => by
   rw [te]
   by_cases h : 0 < k + 1 ∧ l.getD k 0 = 48
   ·rw [if_pos h]
    have : 0 < k := by
     rcases Nat.eq_zero_or_pos k with c | c
     ·subst c; exact absurd h.2 h0
     ·exact c
    exact te_pos h0 k this
   ·rw [if_neg h]; omega
theorem trim_ne {d : Nat} (h : 0 < d) : trimD (dgs d) ≠ [] := by
 unfold trimD
 intro e
 have h1 : 0 < te (dgs d) 0 (dgs d).length := te_pos (dgs_head d h) _ (List.length_pos_iff.2 (dgs_ne d))
 have h2 := congrArg List.length e
 have h3 := List.length_pos_iff.2 (dgs_ne d)
 rw [List.length_take, List.length_nil] at h2
 omega
end Go.Proofs.YtlgencbldbpbdaaGreatDoor
namespace Go.Proofs.YtlgencbldbpbdaaGreatDoor
open Go.RowKit Fl
def RI (k : Nat) (M0 M1 : Bool) (q : Nat) (T : Prop) [Decidable T] (pl : Nat → Int) (R : Nat) (z : ByteArray) (av : Int) (g : Value) (wx : World) : Prop :=
 (k = 0 ∧ z = ⟨#[]⟩) ∨
 (k = 1 ∧ ((M0 = true ∧ z = ⟨#[]⟩) ∨ (M0 = false ∧ bl z = trimD (dgs q) ∧ av = pl q ∧ NV wx g R))) ∨
 (k = 2 ∧ ((pick2 M0 M1 q T = none ∧ z = ⟨#[]⟩) ∨ ∃ d, pick2 M0 M1 q T = some d ∧ 0 < d ∧ bl z = trimD (dgs d) ∧ av = pl d))
theorem bl_full {z : ByteArray} (h : bl z ≠ []) : 0 < z.size := by
 rw [← bl_len]; exact List.length_pos_iff.2 h
theorem e17s {n : Nat} (h : n ≤ 17) : 10 ^ n ≤ 100000000000000000 := by
 have := Nat.pow_le_pow_right (show 0 < 10 by decide) h
 rwa [show (10 : Nat) ^ 17 = 100000000000000000 from by decide] at this
theorem f56 (a : Bool) (k c d : Int) (W : World) : (Instr.field 104 (.agg #[.bool a, .int .i64 k, .int .u64 c, .int .i64 d]) 1).run Tryz.prog W = .ok (.int .i64 k) W := by
 simp [Instr.field, go_sem, Tryz.isAgg54, part, asAgg]
set_option maxRecDepth 100000 in
set_option maxHeartbeats 4000000 in
theorem lShort (x : Nat) (w : World) (hx : U x) (ht : PowTab w) :
  Calls Tryz.prog 134 #[.float .f64 x] w fun e w' => (∃ z : ByteArray, e = .returned (.tuple #[.string z, .int .i64 (shP (rg x))]) ∧ bl z = shD (rg x)) ∧ Below w.heap.size w w' := by
 have CS : Hid (∀ w, Calls Tryz.prog 133 #[.float .f64 x] w fun e w' => (∃ (a : Bool) (c d : Int), e = .returned (.agg #[.bool a, .int .i64 (pCls x), .int .u64 c, .int .i64 d])) ∧ Below w.heap.size w w') := Lib.hid (fun w => (c30 x w hx).mono (by rintro e w' ⟨rfl, hb⟩; exact ⟨⟨_, _, _, rfl⟩, hb⟩))
 have hcl := cls_out hx
 have C22 := Lib.hid (fun w => c133 x w hx)
 generalize pCls x = k at *
 generalize rg x = b at *
 clear hx
 have HT := Lib.hid ht
 clear ht
 rcases hcl with ⟨h0, hc⟩ | ⟨hI, hc⟩ | ⟨h0, h1, hc⟩
 ·have E1 : Hid (shD b = []) := Lib.hid (by unfold shD; rw [if_pos (.inl h0)])
  have E2 : Hid (shP b = 0) := Lib.hid (by unfold shP; rw [if_pos (.inl h0)])
  subst hc
  clear h0
  go_enter Tryz.func134, Tryz.ntmps134
  go_wp2_with (go_at_call 133; refine (CS.out _).mono ?_; rintro e w1 ⟨⟨a, c, d, rfl⟩, hb⟩; have F := f56 a 0 c d; have B := Lib.hid hb; clear hb)
  go_ret2
  exact ⟨⟨_, by rw [E2.out]; rfl, by rw [E1.out]; rfl⟩, B.out⟩
 ·have E1 : Hid (shD b = []) := Lib.hid (by unfold shD; rw [if_pos (.inr hI)])
  have E2 : Hid (shP b = 0) := Lib.hid (by unfold shP; rw [if_pos (.inr hI)])
  clear hI
  rcases hc with hc | hc
  ·subst hc
   go_enter Tryz.func134, Tryz.ntmps134
   go_wp2_with (go_at_call 133; refine (CS.out _).mono ?_; rintro e w1 ⟨⟨a, c, d, rfl⟩, hb⟩; have F := f56 a 3 c d; have B := Lib.hid hb; clear hb)
   go_ret2
   exact ⟨⟨_, by rw [E2.out]; rfl, by rw [E1.out]; rfl⟩, B.out⟩
  ·subst hc
   go_enter Tryz.func134, Tryz.ntmps134
   go_wp2_with (go_at_call 133; refine (CS.out _).mono ?_; rintro e w1 ⟨⟨a, c, d, rfl⟩, hb⟩; have F := f56 a 4 c d; have B := Lib.hid hb; clear hb)
   go_ret2
   exact ⟨⟨_, by rw [E2.out]; rfl, by rw [E1.out]; rfl⟩, B.out⟩
 ·have v0 : 0 < V b := by have := V_lt h0; omega
  have vI : V b ≤ V INF := V_le (Nat.le_of_lt h1)
  have LO := Lib.hid (le10_low v0)
  have HI := Lib.hid (le10_high vI)
  obtain ⟨A, B, hB, hAB, bA, bB, hP⟩ := lParts h0 h1
  have CP := Lib.hid hP
  obtain ⟨y, my, hy⟩ := cLog10 h0 h1
  have CL := Lib.hid hy
  obtain ⟨z, z1, z2, f, hf, hcv⟩ := cFloor my
  have CF := Lib.hid hf
  have CB := Lib.hid (fun (p : Int) (wx : World) (va vb : Value) (ha : NV wx va A) (hb : NV wx vb B) (p1 : -2220 ≤ p) (p2 : p ≤ 2220) => lBelow (v := V b) ha hb hB hAB bA bB p1 p2)
  have HB := Lib.hid (And.intro h0 h1)
  have HAB := Lib.hid (And.intro hB hAB)
  have SZ := Lib.hid (And.intro bA bB)
  have PU := Lib.hid (fun (p : Int) (h : IsP (V b) p) => h.unique (place_is v0 vI))
  have PR := Lib.hid (fun (p : Int) (h : IsP (V b) p) => h.range v0 vI)
  have ED : Hid (shD b = trimD (dgs (shS b).1)) := Lib.hid (by unfold shD; rw [if_neg (by omega)])
  have EP : Hid (shP b = placeF (V b) + Lib.nDigits (shS b).1 - (shS b).2) := Lib.hid (by unfold shP; rw [if_neg (by omega)])
  have ES : Hid (shS b = srchS b (placeF (V b)) 17 1) := Lib.hid rfl
  have g0 : (k == 0) = false := beq_eq_false_iff_ne.2 (by omega)
  have g3 : (k == 3) = false := beq_eq_false_iff_ne.2 (by omega)
  have g4 : (k == 4) = false := beq_eq_false_iff_ne.2 (by omega)
  clear h0 h1 v0 vI hP hy my hf hB hAB bA bB hc
  go_enter Tryz.func134, Tryz.ntmps134
  go_upto_block 1 with (first
   | (go_at_call 133; refine (CS.out _).mono ?_; rintro e w1 ⟨⟨a, c, d, rfl⟩, hb⟩; have F := f56 a k c d; have B1 := Lib.hid hb; clear hb)
   | (go_at_call 26; refine (C22.out _).mono ?_; rintro e w2 ⟨rfl, rfl⟩)
   | (go_at_call 184; refine (CP.out _).mono ?_; rintro e w3 ⟨hb, va, vb, rfl, ha, hb2⟩; have B2 := Lib.hid (B1.out.trans (hb.mono B1.out.size)); have NA0 := Lib.hid (And.intro ha hb2); clear hb ha hb2)
   | (go_at_call 185; refine (CL.out _).mono ?_; rintro e w4 ⟨rfl, rfl⟩)
   | (go_at_call 81; refine (CF.out _).mono ?_; rintro e w5 ⟨rfl, rfl⟩))
  clear CS C22 CP CL CF
  have HZ := Lib.hid (And.intro z1 z2)
  go_cut [6] (fun u wx => ∃ p : Int, u = .int .i64 p ∧ -2213 ≤ p ∧ p ≤ 2214 ∧ Hid (le10 (p - 1) (V b) = true) ∧ Hid (Below w3.heap.size w3 wx))
  case first =>
   clear g0 g3 g4 PU PR ED EP ES
   go_wp2_with fail
   go_loopw [6] (fun u wx => ∃ p : Int, u = .int .i64 p ∧ -2213 ≤ p ∧ p ≤ 2214 ∧ Hid (Below w3.heap.size w3 wx)) (fun u _ => (intOf u + 3000).toNat)
   case atStart => exact ⟨z + 1, by go_num, by omega, by omega, Lib.hid (Below.refl _ _)⟩
   case round =>
    obtain ⟨p, rfl, p1, p2, hI⟩ := hrel
    have C := Lib.hid (CB.out (p - 1) wr va vb (NA0.out.1.below hI.out) (NA0.out.2.below hI.out) (by omega) (by omega))
    rcases hle : le10 (p - 1) (V b) with _ | _
    ·have p3 : -359 ≤ p - 1 := by
      rcases Int.lt_or_le (p - 1) (-359) with c | c
      ·have := le10_anti (show p - 1 ≤ -360 by omega) LO.out
       rw [hle] at this; cases this
      ·exact c
     rw [hle] at C
     clear hle CB z1 z2 hcv
     go_wp2_with (go_at_call 186; refine C.out.mono ?_; rintro e w6 ⟨rfl, hb⟩; have B6 := Lib.hid (hI.out.trans (hb.mono hI.out.size)); clear hb)
     go_roundw
     case rel => exact ⟨p - 1, by go_num, by omega, by omega, B6⟩
     case measure => simp [intOf]; omega
    ·have HL := Lib.hid hle
     rw [hle] at C
     clear hle CB z1 z2 hcv
     go_wp2_with (go_at_call 186; refine C.out.mono ?_; rintro e w6 ⟨rfl, hb⟩; have B6 := Lib.hid (hI.out.trans (hb.mono hI.out.size)); clear hb)
     go_meet
     exact ⟨p, rfl, p1, p2, HL, B6⟩
  case rest =>
   obtain ⟨p0, rfl, q1, q2, HL, BW⟩ := hcut
   clear z1 z2 hcv g0 g3 g4 HZ
   go_upto_block 3 with fail
   go_cut [6] (fun u wx => ∃ p : Int, u = .int .i64 p ∧ Hid (IsP (V b) p) ∧ Hid (Below w3.heap.size w3 wx))
   case first =>
    clear PU PR ED EP ES
    go_wp2_with fail
    go_loopw [6] (fun u wx => ∃ p : Int, u = .int .i64 p ∧ -2213 ≤ p ∧ p ≤ 2214 ∧ Hid (le10 (p - 1) (V b) = true) ∧ Hid (Below w3.heap.size w3 wx)) (fun u _ => (3000 - intOf u).toNat)
    case atStart => exact ⟨p0, rfl, q1, q2, HL, BW⟩
    case round =>
     obtain ⟨p, rfl, p1, p2, hL, hI⟩ := hrel
     have C := Lib.hid (CB.out p wr va vb (NA0.out.1.below hI.out) (NA0.out.2.below hI.out) (by omega) (by omega))
     rcases hle : le10 p (V b) with _ | _
     ·have HP : Hid (IsP (V b) p) := Lib.hid ⟨hL.out, hle⟩
      rw [hle] at C
      clear hle CB q1 q2
      go_wp2_with (go_at_call 186; refine C.out.mono ?_; rintro e w6 ⟨rfl, hb⟩; have B6 := Lib.hid (hI.out.trans (hb.mono hI.out.size)); clear hb)
      go_meet
      exact ⟨p, rfl, HP, B6⟩
     ·have p3 : p < 350 := by
       rcases Int.lt_or_le p 350 with c | c
       ·exact c
       ·have := le10_anti c hle
        rw [HI.out] at this; cases this
      have HP : Hid (le10 (p + 1 - 1) (V b) = true) := Lib.hid (by rw [show p + 1 - 1 = p by omega]; exact hle)
      rw [hle] at C
      clear hle CB q1 q2
      go_wp2_with (go_at_call 186; refine C.out.mono ?_; rintro e w6 ⟨rfl, hb⟩; have B6 := Lib.hid (hI.out.trans (hb.mono hI.out.size)); clear hb)
      go_roundw
      case rel => exact ⟨p + 1, by go_num, by omega, by omega, HP, B6⟩
      case measure => simp [intOf]; omega
   case rest =>
    obtain ⟨p, rfl, hp, BX⟩ := hcut
    clear q1 q2 HL BW
    have epl := PU.out p hp.out
    obtain ⟨r1, r2⟩ := PR.out p hp.out
    rw [← epl] at EP ES
    clear epl PU PR LO HI CB
    have BY : Hid (Below w.heap.size w wc) := Lib.hid (B2.out.trans (BX.out.mono B2.out.size))
    have NY : Hid (NV wc va A ∧ NV wc vb B) := Lib.hid ⟨NA0.out.1.below BX.out, NA0.out.2.below BX.out⟩
    clear BX NA0 B2 B1
    have CD := Lib.hid (fun (n d : Nat) (n1 : 1 ≤ n) (n2 : n ≤ 17) (d0 : 0 < d) (d1 : d ≤ 100000000000000000) => cRd (b := b) (n := n) (d := d) (p := p) HB.out.1 HB.out.2 r1 r2 n1 n2 d0 d1)
    go_wp2_with fail
    go_loopw [7] (fun u wx => ∃ n : Nat, u = .int .i64 n ∧ 1 ≤ n ∧ n ≤ 17 ∧ Hid (srchS b p (18 - n) n = shS b) ∧ Hid (Below w.heap.size w wx ∧ NV wx va A ∧ NV wx vb B)) (fun u _ => 18 - (intOf u).toNat)
    case atStart => exact ⟨1, rfl, Nat.le_refl _, by decide, Lib.hid ES.out.symm, Lib.hid ⟨BY.out, NY.out.1, NY.out.2⟩⟩
    case round =>
     obtain ⟨n, rfl, n1, n2, hS, hW⟩ := hrel
     clear BY NY ES
     have n1i : (1 : Int) ≤ (n : Int) := by omega
     have n2i : (n : Int) ≤ 17 := by omega
     have HN := Lib.hid (And.intro n1 n2)
     obtain ⟨A1, hA1⟩ : ∃ A1, A1 = A * 10 ^ (n - p).toNat := ⟨_, rfl⟩
     obtain ⟨D1, hD1⟩ : ∃ D1, D1 = B * 10 ^ (p - n).toNat := ⟨_, rfl⟩
     have HA1 := Lib.hid hA1
     have HD1 := Lib.hid hD1
     clear hA1 hD1 n1 n2
     go_upto_if 60 with fail
     go_cut [8, 9] (fun u v wx => Hid (Below wr.heap.size wr wx ∧ NV wx u A1 ∧ NV wx v D1))
     case first =>
      clear CD ED EP hS HT
      rcases Int.lt_or_le (n : Int) p with hc | hc
      ·obtain ⟨k2, hk⟩ : ∃ k2 : Nat, p - (n : Int) = k2 := ⟨(p - n).toNat, by omega⟩
       have hk4 : k2 ≤ 400 := by omega
       have CT : Hid (∀ w, Calls Tryz.prog 188 #[.int .i64 (p - (n : Int))] w fun e w' => Below w.heap.size w w' ∧ ∃ v, e = .returned v ∧ NV w' v (10 ^ k2)) := Lib.hid (fun w => by rw [hk]; exact lTen k2 w (by omega))
       have bT : Hid (blen A ≤ 10000 ∧ blen B ≤ 10000 ∧ blen (10 ^ k2) ≤ 10000) := Lib.hid ⟨by have := SZ.out.1; omega, by have := SZ.out.2; omega, by have := blen_ten k2; omega⟩
       have e1 : Hid (A1 = A) := Lib.hid (by rw [HA1.out, show ((n : Int) - p).toNat = 0 by omega, Nat.pow_zero, Nat.mul_one])
       have e2 : Hid (D1 = B * 10 ^ k2) := Lib.hid (by rw [HD1.out, hk, Int.toNat_natCast])
       have hc2 : ¬ p ≤ (n : Int) := by omega
       clear hk hk4
       go_wp2_with (first
        | (go_at_call 188; refine (CT.out _).mono ?_; rintro e w6 ⟨hb, v6, rfl, hv⟩; have B6 := Lib.hid hb; have K6 := Lib.hid hv; have A6 := Lib.hid (And.intro (hW.out.2.1.below hb) (hW.out.2.2.below hb)); clear hb hv)
        | (go_at_call 187; refine (lMul A6.out.2 K6.out bT.out.2.1 bT.out.2.2).mono ?_; rintro e w7 ⟨hb, v7, rfl, hv⟩; have B7 := Lib.hid (B6.out.trans (hb.mono B6.out.size)); have K7 := Lib.hid hv; have A7 := Lib.hid (A6.out.1.below hb); clear hb hv))
       go_meet
       exact Lib.hid ⟨B7.out, by rw [e1.out]; exact A7.out, by rw [e2.out]; exact K7.out⟩
      ·obtain ⟨k2, hk⟩ : ∃ k2 : Nat, (n : Int) - p = k2 := ⟨(n - p).toNat, by omega⟩
       have hk4 : k2 ≤ 400 := by omega
       have CT : Hid (∀ w, Calls Tryz.prog 188 #[.int .i64 ((n : Int) - p)] w fun e w' => Below w.heap.size w w' ∧ ∃ v, e = .returned v ∧ NV w' v (10 ^ k2)) := Lib.hid (fun w => by rw [hk]; exact lTen k2 w (by omega))
       have bT : Hid (blen A ≤ 10000 ∧ blen B ≤ 10000 ∧ blen (10 ^ k2) ≤ 10000) := Lib.hid ⟨by have := SZ.out.1; omega, by have := SZ.out.2; omega, by have := blen_ten k2; omega⟩
       have e1 : Hid (D1 = B) := Lib.hid (by rw [HD1.out, show (p - (n : Int)).toNat = 0 by omega, Nat.pow_zero, Nat.mul_one])
       have e2 : Hid (A1 = A * 10 ^ k2) := Lib.hid (by rw [HA1.out, hk, Int.toNat_natCast])
       clear hk hk4
       go_wp2_with (first
        | (go_at_call 188; refine (CT.out _).mono ?_; rintro e w6 ⟨hb, v6, rfl, hv⟩; have B6 := Lib.hid hb; have K6 := Lib.hid hv; have A6 := Lib.hid (And.intro (hW.out.2.1.below hb) (hW.out.2.2.below hb)); clear hb hv)
        | (go_at_call 187; refine (lMul A6.out.1 K6.out bT.out.1 bT.out.2.2).mono ?_; rintro e w7 ⟨hb, v7, rfl, hv⟩; have B7 := Lib.hid (B6.out.trans (hb.mono B6.out.size)); have K7 := Lib.hid hv; have A7 := Lib.hid (A6.out.2.below hb); clear hb hv))
       go_meet
       exact Lib.hid ⟨B7.out, by rw [e2.out]; exact K7.out, by rw [e1.out]; exact A7.out⟩
     case rest =>
      have hC := hcut
      clear hcut
      have hr := q_range hp.out HN.out.1
      have h17 := e17s HN.out.2
      have hsc := quo_scale (p := p) (n := n) HAB.out.1 HAB.out.2
      rw [← HA1.out, ← HD1.out] at hsc
      obtain ⟨q, hq⟩ : ∃ q, q = qS (V b) p n := ⟨_, rfl⟩
      obtain ⟨R, hR⟩ : ∃ R, R = A1 % D1 := ⟨_, rfl⟩
      rw [← hq] at hr hsc
      rw [← hR] at hsc
      have q0 : 0 < q := by have := Nat.pow_pos (n := n - 1) (show 0 < 10 by decide); omega
      have q99 : q < 100000000000000000 := by omega
      have D0 : 0 < D1 := by rw [HD1.out]; exact Nat.mul_pos HAB.out.1 (Nat.pow_pos (by decide))
      have RD : R < D1 := by rw [hR]; exact Nat.mod_lt _ D0
      have s1 : blen A1 ≤ 3200 := by
       rw [HA1.out]
       have h1 := blen_mul_le A (10 ^ ((n : Int) - p).toNat)
       have h2 := blen_ten ((n : Int) - p).toNat
       have := SZ.out.1
       omega
      have s2 : blen D1 ≤ 3200 := by
       rw [HD1.out]
       have h1 := blen_mul_le B (10 ^ (p - (n : Int)).toNat)
       have h2 := blen_ten (p - (n : Int)).toNat
       have := SZ.out.2
       omega
      obtain ⟨q1, hq1⟩ : ∃ q1, q1 = q + 1 := ⟨_, rfl⟩
      have CQ := Lib.hid (c39 hC.out.2.1 hC.out.2.2 D0 (by omega) (by omega))
      rw [hsc.1, ← hR] at CQ
      obtain ⟨M0, m0⟩ : ∃ M0, M0 = !rdS b p n q := ⟨_, rfl⟩
      obtain ⟨M1, m1⟩ : ∃ M1, M1 = !rdS b p n q1 := ⟨_, rfl⟩
      have SP := Lib.hid (sel_pick (b := b) (n := n) (q := q) (D := D1) (R := R) (B := B) (p := p) HAB.out.1 hq hsc.2.1 hsc.2.2 RD m0 (hq1 ▸ m1))
      have CR0 := Lib.hid (CD.out n q HN.out.1 HN.out.2 q0 (by omega))
      have CR1 := Lib.hid (CD.out n q1 HN.out.1 HN.out.2 (by omega) (by omega))
      rw [← m0] at CR0
      rw [← m1] at CR1
      have CF0 := Lib.hid (fun w h => cFU q (by omega) w h)
      have CF1 := Lib.hid (fun w h => cFU q1 (by omega) w h)
      have CT0 := Lib.hid (fun s w h => cTrim s w q (by omega) h)
      have CT1 := Lib.hid (fun s w h => cTrim s w q1 (by omega) h)
      have nd0 : (Lib.nDigits q : Int) ≤ 18 := by
       have : Lib.nDigits q ≤ 18 := nd_le (by have : (10 : Nat) ^ 18 = 1000000000000000000 := by decide
                                              omega) (by decide)
       omega
      have nd1 : (Lib.nDigits q1 : Int) ≤ 18 := by
       have : Lib.nDigits q1 ≤ 18 := nd_le (by have : (10 : Nat) ^ 18 = 1000000000000000000 := by decide
                                               omega) (by decide)
       omega
      have wq : IntKind.u64.wrap ((q : Int) + 1) = (q1 : Int) := by rw [IntKind.wrap_u64]; omega
      have wq2 : (q : Int) + 1 = (q1 : Int) := by omega
      have qi : (q : Int) ≤ 99999999999999999 := by omega
      have TN := Lib.hid (And.intro (trim_ne q0) (trim_ne (show 0 < q1 by omega)))
      have QQ := Lib.hid (And.intro q0 (And.intro q99 hq1))
      have RDH := Lib.hid RD
      have SS := Lib.hid (And.intro s1 s2)
      clear hr h17 hsc hq hR D0 RD s1 s2 m0 m1 CD q0 q99 hq1
      go_upto_block 7 with (go_at_call 189; refine CQ.out.mono ?_; rintro e w6 ⟨hb, v1, v2, rfl, hv1, hv2⟩; have B6 := Lib.hid hb; have K6 := Lib.hid hv2; obtain ⟨b1, o1, c1, rfl, g1, g2, g3, g4⟩ := one_word hv1 QQ.out.1 (by have := QQ.out.2.1; unfold BB; omega); clear hb hv1 hv2)
      have W6 : Hid (Below w.heap.size w w6 ∧ NV w6 u9 D1 ∧ NV w6 va A ∧ NV w6 vb B) := Lib.hid ⟨hW.out.1.trans ((hC.out.1.trans (B6.out.mono hC.out.1.size)).mono hW.out.1.size), hC.out.2.2.below B6.out, (hW.out.2.1.below hC.out.1).below B6.out, (hW.out.2.2.below hC.out.1).below B6.out⟩
      clear CQ hC hW B6
      go_cut [13, 14] (fun s av wx => ∃ (z : ByteArray) (t : Int), s = .string z ∧ av = .int .i64 t ∧ Hid ((pick2 M0 M1 q (D1 - R < R ∨ (D1 - R = R ∧ (q + 1) % 2 = 0)) = none ∧ z = ⟨#[]⟩) ∨ ∃ d, pick2 M0 M1 q (D1 - R < R ∨ (D1 - R = R ∧ (q + 1) % 2 = 0)) = some d ∧ 0 < d ∧ bl z = trimD (dgs d) ∧ t = p + (Lib.nDigits d : Int) - n) ∧ Hid (Below w6.heap.size w6 wx))
      case first =>
       clear ED EP hS HAB SP
       go_wp2_with fail
       go_loopw [13, 14, 15, 85] (fun s av g i wx => ∃ (k : Nat) (z : ByteArray) (t : Int), s = .string z ∧ av = .int .i64 t ∧ i = .int .i64 k ∧ Hid (RI k M0 M1 q (D1 - R < R ∨ (D1 - R = R ∧ (q + 1) % 2 = 0)) (fun d => p + (Lib.nDigits d : Int) - n) R z t g wx ∧ Below w6.heap.size w6 wx)) (fun _ _ _ i _ => 2 - (intOf i).toNat)
       case atStart => exact ⟨0, _, _, rfl, rfl, rfl, Lib.hid ⟨.inl ⟨rfl, rfl⟩, Below.refl _ _⟩⟩
       case round =>
        obtain ⟨k, z, t, rfl, rfl, rfl, hI⟩ := hrel
        rcases hI.out.1 with ⟨rfl, rfl⟩ | ⟨rfl, hk⟩ | ⟨rfl, hk⟩
        ·cases M0
         ·go_wp2_with (first
           | (go_at_call 190; refine (CF0.out _ (HT.out.below (W6.out.1.trans (hI.out.2.mono W6.out.1.size)))).mono ?_; rintro e w7 ⟨⟨s0, rfl, hs⟩, hb⟩; have zs : (s0.size : Int) = (Lib.nDigits q : Int) := (by rw [← bl_len, hs, dgs_len]); have S0 := Lib.hid hs; have B7 := Lib.hid (hI.out.2.trans (hb.mono hI.out.2.size)); clear hb hs)
           | (go_at_call 191; refine (CT0.out _ _ S0.out).mono ?_; rintro e w8 ⟨⟨t0, rfl, ht⟩, rfl⟩; have T0 := Lib.hid ht; clear ht)
           | (go_at_call 192; refine (CR0.out _ _ T0.out).mono ?_; rintro e w9 ⟨⟨y, rfl, hy⟩, hb⟩; have B9 := Lib.hid (B7.out.trans (hb.mono B7.out.size)); clear hb))
          go_roundw
          case rel => exact ⟨1, _, _, rfl, rfl, rfl, Lib.hid ⟨.inr (.inl ⟨rfl, .inr ⟨rfl, T0.out, rfl, K6.out.below B9.out⟩⟩), B9.out⟩⟩
          case measure => simp [intOf]
         ·go_wp2_with (first
           | (go_at_call 190; refine (CF0.out _ (HT.out.below (W6.out.1.trans (hI.out.2.mono W6.out.1.size)))).mono ?_; rintro e w7 ⟨⟨s0, rfl, hs⟩, hb⟩; have zs : (s0.size : Int) = (Lib.nDigits q : Int) := (by rw [← bl_len, hs, dgs_len]); have S0 := Lib.hid hs; have B7 := Lib.hid (hI.out.2.trans (hb.mono hI.out.2.size)); clear hb hs)
           | (go_at_call 191; refine (CT0.out _ _ S0.out).mono ?_; rintro e w8 ⟨⟨t0, rfl, ht⟩, rfl⟩; have T0 := Lib.hid ht; clear ht)
           | (go_at_call 192; refine (CR0.out _ _ T0.out).mono ?_; rintro e w9 ⟨⟨y, rfl, hy⟩, hb⟩; have B9 := Lib.hid (B7.out.trans (hb.mono B7.out.size)); clear hb))
          go_roundw
          case rel => exact ⟨1, _, _, rfl, rfl, rfl, Lib.hid ⟨.inr (.inl ⟨rfl, .inl ⟨rfl, rfl⟩⟩), B9.out⟩⟩
          case measure => simp [intOf]
        ·rcases hk with ⟨rfl, rfl⟩ | ⟨rfl, hz, ht, hg⟩
         ·cases M1
          ·have E : Hid (pick2 true false q (D1 - R < R ∨ (D1 - R = R ∧ (q + 1) % 2 = 0)) = some q1) := Lib.hid (by rw [QQ.out.2.2]; rfl)
           go_wp2_with (first
           | (go_at_call 190; refine (CF1.out _ (HT.out.below (W6.out.1.trans (hI.out.2.mono W6.out.1.size)))).mono ?_; rintro e w7 ⟨⟨s0, rfl, hs⟩, hb⟩; have zs : (s0.size : Int) = (Lib.nDigits q1 : Int) := (by rw [← bl_len, hs, dgs_len]); have S0 := Lib.hid hs; have B7 := Lib.hid (hI.out.2.trans (hb.mono hI.out.2.size)); clear hb hs)
           | (go_at_call 191; refine (CT1.out _ _ S0.out).mono ?_; rintro e w8 ⟨⟨t0, rfl, ht⟩, rfl⟩; have T0 := Lib.hid ht; clear ht)
           | (go_at_call 192; refine (CR1.out _ _ T0.out).mono ?_; rintro e w9 ⟨⟨y, rfl, hy⟩, hb⟩; have B9 := Lib.hid (B7.out.trans (hb.mono B7.out.size)); clear hb)
           | (go_at_call 193; refine (c61b (W6.out.2.1.below B9.out) (K6.out.below B9.out) (Nat.le_of_lt RDH.out) (by have := SS.out.2; omega)).mono ?_; rintro e w10 ⟨hb, v10, rfl, hv, -⟩; have B10 := Lib.hid (B9.out.trans (hb.mono B9.out.size)); have K10 := Lib.hid hv; clear hb hv))
           go_roundw
           case rel => exact ⟨2, _, _, rfl, rfl, rfl, Lib.hid ⟨.inr (.inr ⟨rfl, .inr ⟨q1, E.out, by have := QQ.out; omega, T0.out, rfl⟩⟩), B10.out⟩⟩
           case measure => simp [intOf]
          ·go_wp2_with (first
           | (go_at_call 190; refine (CF1.out _ (HT.out.below (W6.out.1.trans (hI.out.2.mono W6.out.1.size)))).mono ?_; rintro e w7 ⟨⟨s0, rfl, hs⟩, hb⟩; have zs : (s0.size : Int) = (Lib.nDigits q1 : Int) := (by rw [← bl_len, hs, dgs_len]); have S0 := Lib.hid hs; have B7 := Lib.hid (hI.out.2.trans (hb.mono hI.out.2.size)); clear hb hs)
           | (go_at_call 191; refine (CT1.out _ _ S0.out).mono ?_; rintro e w8 ⟨⟨t0, rfl, ht⟩, rfl⟩; have T0 := Lib.hid ht; clear ht)
           | (go_at_call 192; refine (CR1.out _ _ T0.out).mono ?_; rintro e w9 ⟨⟨y, rfl, hy⟩, hb⟩; have B9 := Lib.hid (B7.out.trans (hb.mono B7.out.size)); clear hb))
           go_roundw
           case rel => exact ⟨2, _, _, rfl, rfl, rfl, Lib.hid ⟨.inr (.inr ⟨rfl, .inl ⟨rfl, rfl⟩⟩), B9.out⟩⟩
           case measure => simp [intOf]
         ·have HZ := Lib.hid hz
          have HTt := Lib.hid ht
          obtain ⟨f1, f2⟩ := full_bl (bl_full (by rw [hz]; exact TN.out.1))
          clear hz ht
          cases M1
          ·have HG := Lib.hid hg
           clear hg
           have Z10 : Hid (blen (D1 - R) ≤ 64000 ∧ blen R ≤ 64000) := Lib.hid ⟨by have := SS.out.2; have := blen_mono (show D1 - R ≤ D1 by omega); omega, by have := SS.out.2; have := blen_mono (Nat.le_of_lt RDH.out); omega⟩
           rcases Nat.lt_trichotomy (D1 - R) R with c | c | c
           ·have E : Hid (pick2 false false q (D1 - R < R ∨ (D1 - R = R ∧ (q + 1) % 2 = 0)) = some q1) := Lib.hid (by unfold pick2; rw [if_pos rfl, if_pos ⟨rfl, .inl c⟩, QQ.out.2.2])
            have HL := Lib.hid c
            clear c
            go_wp2_with (first
            | (go_at_call 190; refine (CF1.out _ (HT.out.below (W6.out.1.trans (hI.out.2.mono W6.out.1.size)))).mono ?_; rintro e w7 ⟨⟨s0, rfl, hs⟩, hb⟩; have zs : (s0.size : Int) = (Lib.nDigits q1 : Int) := (by rw [← bl_len, hs, dgs_len]); have S0 := Lib.hid hs; have G7 := Lib.hid (HG.out.below hb); have B7 := Lib.hid (hI.out.2.trans (hb.mono hI.out.2.size)); clear hb hs)
            | (go_at_call 191; refine (CT1.out _ _ S0.out).mono ?_; rintro e w8 ⟨⟨t0, rfl, ht⟩, rfl⟩; have T0 := Lib.hid ht; clear ht)
            | (go_at_call 192; refine (CR1.out _ _ T0.out).mono ?_; rintro e w9 ⟨⟨y, rfl, hy⟩, hb⟩; have G9 := Lib.hid (G7.out.below hb); have B9 := Lib.hid (B7.out.trans (hb.mono B7.out.size)); clear hb)
            | (go_at_call 193; refine (c61b (W6.out.2.1.below B9.out) (K6.out.below B9.out) (Nat.le_of_lt RDH.out) (by have := SS.out.2; omega)).mono ?_; rintro e w10 ⟨hb, v10, rfl, hv, -⟩; have G10 := Lib.hid (G9.out.below hb); have B10 := Lib.hid (B9.out.trans (hb.mono B9.out.size)); have K10 := Lib.hid hv; clear hb hv)
            | (go_at_call 194; (with_reducible refine (c41 K10.out G10.out Z10.out.1 Z10.out.2).mono ?_); rintro e w11 ⟨⟨r, rfl, hr⟩, k11, rfl⟩; have K11 := Lib.hid (K10.out.drew k11); have G11 := Lib.hid (G10.out.drew k11); have B11 := Lib.hid (BdN B10.out k11); have u0 : r < 0 := hr.1 HL.out; clear hr))
            go_roundw
            case rel => exact ⟨2, _, _, rfl, rfl, rfl, Lib.hid ⟨.inr (.inr ⟨rfl, .inr ⟨q1, E.out, by have := QQ.out; omega, T0.out, rfl⟩⟩), B11.out⟩⟩
            case measure => simp [intOf]
           ·have HL := Lib.hid c
            rcases Nat.mod_two_eq_zero_or_one q1 with par | par
            ·have E : Hid (pick2 false false q (D1 - R < R ∨ (D1 - R = R ∧ (q + 1) % 2 = 0)) = some q1) := Lib.hid (by unfold pick2; rw [if_pos rfl, if_pos ⟨rfl, .inr ⟨c, by rw [← QQ.out.2.2]; exact par⟩⟩, QQ.out.2.2])
             have par2 : (q1 : Int) % 2 = 0 := by omega
             clear c par
             go_wp2_with (first
            | (go_at_call 190; refine (CF1.out _ (HT.out.below (W6.out.1.trans (hI.out.2.mono W6.out.1.size)))).mono ?_; rintro e w7 ⟨⟨s0, rfl, hs⟩, hb⟩; have zs : (s0.size : Int) = (Lib.nDigits q1 : Int) := (by rw [← bl_len, hs, dgs_len]); have S0 := Lib.hid hs; have G7 := Lib.hid (HG.out.below hb); have B7 := Lib.hid (hI.out.2.trans (hb.mono hI.out.2.size)); clear hb hs)
            | (go_at_call 191; refine (CT1.out _ _ S0.out).mono ?_; rintro e w8 ⟨⟨t0, rfl, ht⟩, rfl⟩; have T0 := Lib.hid ht; clear ht)
            | (go_at_call 192; refine (CR1.out _ _ T0.out).mono ?_; rintro e w9 ⟨⟨y, rfl, hy⟩, hb⟩; have G9 := Lib.hid (G7.out.below hb); have B9 := Lib.hid (B7.out.trans (hb.mono B7.out.size)); clear hb)
            | (go_at_call 193; refine (c61b (W6.out.2.1.below B9.out) (K6.out.below B9.out) (Nat.le_of_lt RDH.out) (by have := SS.out.2; omega)).mono ?_; rintro e w10 ⟨hb, v10, rfl, hv, -⟩; have G10 := Lib.hid (G9.out.below hb); have B10 := Lib.hid (B9.out.trans (hb.mono B9.out.size)); have K10 := Lib.hid hv; clear hb hv)
            | (go_at_call 194; (with_reducible refine (c41 K10.out G10.out Z10.out.1 Z10.out.2).mono ?_); rintro e w11 ⟨⟨r, rfl, hr⟩, k11, rfl⟩; have K11 := Lib.hid (K10.out.drew k11); have G11 := Lib.hid (G10.out.drew k11); have B11 := Lib.hid (BdN B10.out k11); obtain rfl : r = 0 := hr.2.1 HL.out; clear hr)
            | (go_at_call 194; (with_reducible refine (c41 K11.out G11.out Z10.out.1 Z10.out.2).mono ?_); rintro e w12 ⟨⟨r2, rfl, hr⟩, k12, rfl⟩; have B12 := Lib.hid (BdN B11.out k12); obtain rfl : r2 = 0 := hr.2.1 HL.out; clear hr))
             go_roundw
             case rel => exact ⟨2, _, _, rfl, rfl, rfl, Lib.hid ⟨.inr (.inr ⟨rfl, .inr ⟨q1, E.out, by have := QQ.out; omega, T0.out, rfl⟩⟩), BdN B10.out _⟩⟩
             case measure => simp [intOf]
            ·have E : Hid (pick2 false false q (D1 - R < R ∨ (D1 - R = R ∧ (q + 1) % 2 = 0)) = some q) := Lib.hid (by unfold pick2; rw [if_pos rfl, if_neg (fun h => by
              have h2 := h.2
              rw [← QQ.out.2.2] at h2
              omega)])
             have par2 : (q1 : Int) % 2 = 1 := by omega
             clear c par
             go_wp2_with (first
            | (go_at_call 190; refine (CF1.out _ (HT.out.below (W6.out.1.trans (hI.out.2.mono W6.out.1.size)))).mono ?_; rintro e w7 ⟨⟨s0, rfl, hs⟩, hb⟩; have zs : (s0.size : Int) = (Lib.nDigits q1 : Int) := (by rw [← bl_len, hs, dgs_len]); have S0 := Lib.hid hs; have G7 := Lib.hid (HG.out.below hb); have B7 := Lib.hid (hI.out.2.trans (hb.mono hI.out.2.size)); clear hb hs)
            | (go_at_call 191; refine (CT1.out _ _ S0.out).mono ?_; rintro e w8 ⟨⟨t0, rfl, ht⟩, rfl⟩; have T0 := Lib.hid ht; clear ht)
            | (go_at_call 192; refine (CR1.out _ _ T0.out).mono ?_; rintro e w9 ⟨⟨y, rfl, hy⟩, hb⟩; have G9 := Lib.hid (G7.out.below hb); have B9 := Lib.hid (B7.out.trans (hb.mono B7.out.size)); clear hb)
            | (go_at_call 193; refine (c61b (W6.out.2.1.below B9.out) (K6.out.below B9.out) (Nat.le_of_lt RDH.out) (by have := SS.out.2; omega)).mono ?_; rintro e w10 ⟨hb, v10, rfl, hv, -⟩; have G10 := Lib.hid (G9.out.below hb); have B10 := Lib.hid (B9.out.trans (hb.mono B9.out.size)); have K10 := Lib.hid hv; clear hb hv)
            | (go_at_call 194; (with_reducible refine (c41 K10.out G10.out Z10.out.1 Z10.out.2).mono ?_); rintro e w11 ⟨⟨r, rfl, hr⟩, k11, rfl⟩; have K11 := Lib.hid (K10.out.drew k11); have G11 := Lib.hid (G10.out.drew k11); have B11 := Lib.hid (BdN B10.out k11); obtain rfl : r = 0 := hr.2.1 HL.out; clear hr)
            | (go_at_call 194; (with_reducible refine (c41 K11.out G11.out Z10.out.1 Z10.out.2).mono ?_); rintro e w12 ⟨⟨r2, rfl, hr⟩, k12, rfl⟩; have B12 := Lib.hid (BdN B11.out k12); obtain rfl : r2 = 0 := hr.2.1 HL.out; clear hr))
             go_roundw
             case rel => exact ⟨2, _, _, rfl, rfl, rfl, Lib.hid ⟨.inr (.inr ⟨rfl, .inr ⟨q, E.out, QQ.out.1, HZ.out, HTt.out⟩⟩), BdN B10.out _⟩⟩
             case measure => simp [intOf]
           ·have E : Hid (pick2 false false q (D1 - R < R ∨ (D1 - R = R ∧ (q + 1) % 2 = 0)) = some q) := Lib.hid (by unfold pick2; rw [if_pos rfl, if_neg (fun h => by have h2 := h.2; omega)])
            have HL := Lib.hid c
            clear c
            go_wp2_with (first
            | (go_at_call 190; refine (CF1.out _ (HT.out.below (W6.out.1.trans (hI.out.2.mono W6.out.1.size)))).mono ?_; rintro e w7 ⟨⟨s0, rfl, hs⟩, hb⟩; have zs : (s0.size : Int) = (Lib.nDigits q1 : Int) := (by rw [← bl_len, hs, dgs_len]); have S0 := Lib.hid hs; have G7 := Lib.hid (HG.out.below hb); have B7 := Lib.hid (hI.out.2.trans (hb.mono hI.out.2.size)); clear hb hs)
            | (go_at_call 191; refine (CT1.out _ _ S0.out).mono ?_; rintro e w8 ⟨⟨t0, rfl, ht⟩, rfl⟩; have T0 := Lib.hid ht; clear ht)
            | (go_at_call 192; refine (CR1.out _ _ T0.out).mono ?_; rintro e w9 ⟨⟨y, rfl, hy⟩, hb⟩; have G9 := Lib.hid (G7.out.below hb); have B9 := Lib.hid (B7.out.trans (hb.mono B7.out.size)); clear hb)
            | (go_at_call 193; refine (c61b (W6.out.2.1.below B9.out) (K6.out.below B9.out) (Nat.le_of_lt RDH.out) (by have := SS.out.2; omega)).mono ?_; rintro e w10 ⟨hb, v10, rfl, hv, -⟩; have G10 := Lib.hid (G9.out.below hb); have B10 := Lib.hid (B9.out.trans (hb.mono B9.out.size)); have K10 := Lib.hid hv; clear hb hv)
            | (go_at_call 194; (with_reducible refine (c41 K10.out G10.out Z10.out.1 Z10.out.2).mono ?_); rintro e w11 ⟨⟨r, rfl, hr⟩, k11, rfl⟩; have K11 := Lib.hid (K10.out.drew k11); have G11 := Lib.hid (G10.out.drew k11); have B11 := Lib.hid (BdN B10.out k11); have u0 : 0 < r := hr.2.2 HL.out; have u1 : ¬ r < 0 := (by omega); clear hr)
            | (go_at_call 194; (with_reducible refine (c41 K11.out G11.out Z10.out.1 Z10.out.2).mono ?_); rintro e w12 ⟨⟨r2, rfl, hr⟩, k12, rfl⟩; have B12 := Lib.hid (BdN B11.out k12); have u2 : 0 < r2 := hr.2.2 HL.out; have u3 : (r2 == 0) = false := beq_eq_false_iff_ne.2 (by omega); clear hr))
            go_roundw
            case rel => exact ⟨2, _, _, rfl, rfl, rfl, Lib.hid ⟨.inr (.inr ⟨rfl, .inr ⟨q, E.out, QQ.out.1, HZ.out, HTt.out⟩⟩), BdN B10.out _⟩⟩
            case measure => simp [intOf]
          ·have E : Hid (pick2 false true q (D1 - R < R ∨ (D1 - R = R ∧ (q + 1) % 2 = 0)) = some q) := Lib.hid rfl
           clear hg
           go_wp2_with (first
           | (go_at_call 190; refine (CF1.out _ (HT.out.below (W6.out.1.trans (hI.out.2.mono W6.out.1.size)))).mono ?_; rintro e w7 ⟨⟨s0, rfl, hs⟩, hb⟩; have zs : (s0.size : Int) = (Lib.nDigits q1 : Int) := (by rw [← bl_len, hs, dgs_len]); have S0 := Lib.hid hs; have B7 := Lib.hid (hI.out.2.trans (hb.mono hI.out.2.size)); clear hb hs)
           | (go_at_call 191; refine (CT1.out _ _ S0.out).mono ?_; rintro e w8 ⟨⟨t0, rfl, ht⟩, rfl⟩; have T0 := Lib.hid ht; clear ht)
           | (go_at_call 192; refine (CR1.out _ _ T0.out).mono ?_; rintro e w9 ⟨⟨y, rfl, hy⟩, hb⟩; have B9 := Lib.hid (B7.out.trans (hb.mono B7.out.size)); clear hb))
           go_roundw
           case rel => exact ⟨2, _, _, rfl, rfl, rfl, Lib.hid ⟨.inr (.inr ⟨rfl, .inr ⟨q, E.out, QQ.out.1, HZ.out, HTt.out⟩⟩), B9.out⟩⟩
           case measure => simp [intOf]
        ·have HK := Lib.hid hk
         clear hk
         go_wp2_with fail
         go_meet
         exact ⟨_, _, rfl, rfl, HK, Lib.hid hI.out.2⟩
      case rest =>
       obtain ⟨z, t, rfl, rfl, hP, hB⟩ := hcut
       rcases hP.out with ⟨hn, rfl⟩ | ⟨d, hd, d0, hz, rfl⟩
       ·have NONE : selS b p n = none := SP.out.trans hn
        have n17 : n ≠ 17 := fun e => by
         subst e
         obtain ⟨d, hd⟩ := sel_17 HB.out.1 HB.out.2 hp.out
         rw [hd] at NONE; cases NONE
        have E : Hid (1 ≤ n + 1 ∧ n + 1 ≤ 17 ∧ srchS b p (18 - (n + 1)) (n + 1) = shS b) := Lib.hid ⟨by omega, by have := HN.out; omega, by
         have h := hS.out
         have := HN.out
         rw [show 18 - n = (18 - (n + 1)) + 1 by omega, srch_none NONE] at h
         exact h⟩
        have E2 : Hid (Below w.heap.size w wc ∧ NV wc va A ∧ NV wc vb B) := Lib.hid ⟨W6.out.1.trans (hB.out.mono W6.out.1.size), W6.out.2.2.1.below hB.out, W6.out.2.2.2.below hB.out⟩
        clear NONE n17 SP ED EP hS CF0 CF1 CT0 CT1 CR0 CR1 wq wq2 hP hn
        go_wp2_with fail
        go_roundw
        case rel => exact ⟨n + 1, by go_num, E.out.1, E.out.2.1, Lib.hid E.out.2.2, E2⟩
        case measure => have := E.out; simp [intOf] <;> omega
       ·have SEL : selS b p n = some d := SP.out.trans hd
        have SH : shS b = (d, n) := by
         have h := hS.out
         have := HN.out
         rw [show 18 - n = (17 - n) + 1 by omega, srch_some SEL] at h
         exact h.symm
        have R1 : Hid (bl z = shD b) := Lib.hid (by rw [hz, ED.out, SH])
        have R2 : Hid (p + (Lib.nDigits d : Int) - n = shP b) := Lib.hid (by rw [EP.out, SH])
        obtain ⟨f1, f2⟩ := full_bl (bl_full (by rw [hz]; exact trim_ne d0))
        have E2 := Lib.hid (W6.out.1.trans (hB.out.mono W6.out.1.size))
        clear SEL SH SP ED EP hS CF0 CF1 CT0 CT1 CR0 CR1 wq wq2 hP hd hz d0
        go_wp2_with fail
        go_ret2
        exact ⟨⟨z, by rw [← R2.out] <;> rfl, R1.out⟩, E2.out⟩
end Go.Proofs.YtlgencbldbpbdaaGreatDoor
namespace Go.Proofs.YtlgencbldbpbdaaGreatDoor
open Go.Shelf
theorem cRepeat (s : ByteArray) (c : Nat) (w : World) (hc : c ≤ 9223372036854775807) (hlen : s.size * c ≤ 140737488355328) :
  Calls Tryz.prog 135 #[.string s, .int .i64 c] w fun e w' => e = .returned (.string ⟨(Lib.repeatL s.data.toList c).toArray⟩) ∧ Go.RowKit.Below w.heap.size w w' := Any.strings_Repeat lays105 Builder_Extra_105 s c w hc hlen
theorem cItoaBig (n : Int) (h0 : -9223372036854775808 ≤ n) (h1 : n ≤ 9223372036854775807) (w : World) (htab : Lib.TabIs Tryz.prog w "internal/strconv.uint64pow10" .u64 Lib.pow10Tab) :
  Calls Tryz.prog 17 #[.int .i64 n] w fun e w' => e = .returned (.string ⟨(Lib.itoa n).toArray⟩) ∧ ∃ k os, w' = Go.Sort.grow (w.drewN k) os := Any.strconv_Itoa laysM171 n h0 h1 w htab
end Go.Proofs.YtlgencbldbpbdaaGreatDoor
namespace Go.Proofs.YtlgencbldbpbdaaGreatDoor
open Go.RowKit Fl
def printD (l : List Nat) (p : Int) : List Nat :=
 if (l.length : Int) ≤ p ∧ p ≤ 21 then l ++ List.replicate (p - l.length).toNat 48
 else if 1 ≤ p ∧ p ≤ 21 then l.take p.toNat ++ [46] ++ l.drop p.toNat
 else if -5 ≤ p ∧ p ≤ 0 then [48, 46] ++ List.replicate (-p).toNat 48 ++ l
 else l.take 1 ++ (if 1 < l.length then 46 :: l.drop 1 else []) ++ (if 1 ≤ p then [101, 43] ++ dgs (p - 1).toNat else [101, 45] ++ dgs (1 - p).toNat)
def bodyF (b : Nat) : List Nat := if b = 0 then [48] else if b = INF then [73, 110, 102, 105, 110, 105, 116, 121] else printD (shD b) (shP b)
def printF (x : Nat) : List Nat := if INF < rg x then [78, 97, 78] else (if sg x = true then [45] else []) ++ bodyF (rg x)
theorem sh_range {b : Nat} (h0 : 0 < b) (h1 : b < INF) : 1 ≤ (shD b).length ∧ (shD b).length ≤ 18 ∧ -400 ≤ shP b ∧ shP b ≤ 400 := by
 have v0 : 0 < V b := by have := V_lt h0; omega
 have vI : V b ≤ V INF := V_le (Nat.le_of_lt h1)
 have hp := place_is v0 vI
 obtain ⟨r1, r2⟩ := hp.range v0 vI
 obtain ⟨d, m, e, m1, m2, hs, -⟩ := srch_ends h0 h1 hp 17 1 (by omega) (by omega) (by omega)
 have hq := q_range hp (n := m) m1
 have h17 := e17s m2
 have hp0 := Nat.pow_pos (n := m - 1) (show 0 < 10 by decide)
 have hd : 0 < d ∧ d < 1000000000000000000 := by
  rcases (sel_read hs).2 with c | c <;> omega
 have nd : Lib.nDigits d ≤ 18 := nd_le (by have : (10 : Nat) ^ 18 = 1000000000000000000 := by decide
                                           omega) (by decide)
 have nd1 : 0 < Lib.nDigits d := by rw [← dgs_len]; exact List.length_pos_iff.2 (dgs_ne d)
 have eS : shS b = (d, m) := e
 have e1 : shD b = trimD (dgs d) := by unfold shD; rw [if_neg (by omega), eS]
 have e2 : shP b = placeF (V b) + Lib.nDigits d - m := by unfold shP; rw [if_neg (by omega), eS]
 have l1 : 0 < (trimD (dgs d)).length := List.length_pos_iff.2 (trim_ne hd.1)
 have l2 : (trimD (dgs d)).length ≤ 18 := by
  unfold trimD
  rw [List.length_take, dgs_len]; omega
 rw [e1, e2]
 omega
theorem cls4 {x : Nat} (hx : U x) : (INF < rg x ∧ pCls x = 4 ∧ pNeg x = false) ∨ (rg x = INF ∧ pCls x = 3 ∧ pNeg x = sg x) ∨ (rg x = 0 ∧ pCls x = 0 ∧ pNeg x = sg x) ∨ (0 < rg x ∧ rg x < INF ∧ (pCls x = 1 ∨ pCls x = 2) ∧ pNeg x = sg x) := by
 unfold pCls pNeg eM fM rg INF
 have : x < 18446744073709551616 := hx.lt
 by_cases h : x / 4503599627370496 % 2048 = 2047
 ·by_cases h2 : x % 4503599627370496 = 0
  ·right; left
   rw [if_pos h, if_pos h2, if_neg (by omega)]
   exact ⟨by omega, rfl, rfl⟩
  ·left
   rw [if_pos h, if_neg h2, if_pos ⟨h, h2⟩]
   exact ⟨by omega, rfl, rfl⟩
 ·have hn : (if x / 4503599627370496 % 2048 = 2047 ∧ x % 4503599627370496 ≠ 0 then false else sg x) = sg x := if_neg (fun c => h c.1)
  by_cases h3 : x / 4503599627370496 % 2048 = 0
  ·by_cases h2 : x % 4503599627370496 = 0
   ·right; right; left
    rw [if_neg h, if_pos h3, if_pos h2]
    exact ⟨by omega, rfl, hn⟩
   ·right; right; right
    rw [if_neg h, if_pos h3, if_neg h2]
    exact ⟨by omega, by omega, .inl rfl, hn⟩
  ·right; right; right
   rw [if_neg h, if_neg h3]
   exact ⟨by omega, by omega, .inr rfl, hn⟩
theorem dgs_short {n : Nat} (h : n ≤ 1000) : (dgs n).length ≤ 4 := by
 rw [dgs_len]
 exact nd_le (by have : (10 : Nat) ^ 4 = 10000 := by decide
                 omega) (by decide)
theorem printD_len {l : List Nat} {p : Int} (h : l.length ≤ 18) (h1 : -400 ≤ p) (h2 : p ≤ 400) : (printD l p).length ≤ 60 := by
 have a := dgs_short (n := (p - 1).toNat) (by omega)
 have b := dgs_short (n := (1 - p).toNat) (by omega)
 unfold printD
 split
 ·simp only [List.length_append, List.length_replicate]; omega
 ·split
  ·simp only [List.length_append, List.length_take, List.length_drop, List.length_cons, List.length_nil]; omega
  ·split
   ·simp only [List.length_append, List.length_replicate, List.length_cons, List.length_nil]; omega
   ·split <;> split <;> simp only [List.length_append, List.length_take, List.length_drop, List.length_cons, List.length_nil] <;> omega
theorem bodyF_len {b : Nat} (h : b ≤ INF) : (bodyF b).length ≤ 60 := by
 unfold bodyF
 split
 ·simp
 ·split
  ·simp
  ·rename_i h0 h1
   obtain ⟨_, l2, p1, p2⟩ := sh_range (b := b) (by omega) (by omega)
   exact printD_len l2 p1 p2
theorem cRep (k : Int) (h0 : 0 ≤ k) (h1 : k ≤ 1000) (w : World) : Calls Tryz.prog 135 #[.string ⟨#[48]⟩, .int .i64 k] w fun e w' => (∃ r : ByteArray, e = .returned (.string r) ∧ bl r = List.replicate k.toNat 48 ∧ (r.size : Int) = k) ∧ Below w.heap.size w w' := by
 obtain ⟨n, rfl⟩ : ∃ n : Nat, k = n := ⟨k.toNat, by omega⟩
 refine (cRepeat ⟨#[48]⟩ n w (by omega) (by show 1 * n ≤ _; omega)).mono ?_
 rintro e w' ⟨rfl, hb⟩
 have hr : ∀ m : Nat, Lib.repeatL [(48 : UInt8)] m = List.replicate m 48 := fun m => by
  induction m with
  | zero => rfl
  | succ m ih => simp [Lib.repeatL] at ih ⊢ <;> simp [List.replicate_succ, ih]
 have e1 : bl ⟨(Lib.repeatL (⟨#[48]⟩ : ByteArray).data.toList n).toArray⟩ = List.replicate n 48 := by
  show bl ⟨(Lib.repeatL [(48 : UInt8)] n).toArray⟩ = _
  rw [hr]
  show (List.replicate n (48 : UInt8)).map UInt8.toNat = _
  rw [List.map_replicate]; rfl
 exact ⟨⟨_, rfl, by rw [e1, Int.toNat_natCast], by rw [← bl_len, e1, List.length_replicate]⟩, hb⟩
theorem cIt (k : Int) (h0 : 0 ≤ k) (h1 : k ≤ 1000) (w : World) (ht : PowTab w) : Calls Tryz.prog 17 #[.int .i64 k] w fun e w' => (∃ r : ByteArray, e = .returned (.string r) ∧ bl r = dgs k.toNat ∧ (r.size : Int) ≤ 4) ∧ Below w.heap.size w w' := by
 obtain ⟨n, rfl⟩ : ∃ n : Nat, k = n := ⟨k.toNat, by omega⟩
 refine (cItoaBig n (by omega) (by omega) w ht).mono ?_
 rintro e w' ⟨rfl, j, os, rfl⟩
 rw [Lib.itoa_nonneg]
 have h2 := dgs_short (n := n) (by omega)
 exact ⟨⟨_, rfl, by rw [bl_dec, Int.toNat_natCast], by rw [← bl_len, bl_dec]; omega⟩, Lib.below_grow w.heap.size w (Nat.le_refl _) j os⟩
end Go.Proofs.YtlgencbldbpbdaaGreatDoor
namespace Go.Proofs.YtlgencbldbpbdaaGreatDoor
open Go.RowKit Fl
theorem split4 (x : Nat) (hx : U x) : ∀ w, Calls Tryz.prog 133 #[.float .f64 x] w fun e w' => (∃ (c d : Int), e = .returned (.agg #[.bool (pNeg x), .int .i64 (pCls x), .int .u64 c, .int .i64 d])) ∧ Below w.heap.size w w' := fun w => (c30 x w hx).mono (by rintro e w' ⟨rfl, hb⟩; exact ⟨⟨_, _, rfl⟩, hb⟩)
theorem sl_to (z : ByteArray) (p : Int) (h0 : 0 ≤ p) (h1 : p ≤ (z.size : Int)) (W : World) : (Instr.sliceAt 9 (.string z) none (some (.int .i64 p)) none).run Tryz.prog W = .ok (.string (z.extract 0 p.toNat)) W := by
 simp [go_sem, Tryz.underlying9, h0, h1]
theorem sl_from (z : ByteArray) (p : Int) (h0 : 0 ≤ p) (h1 : p ≤ (z.size : Int)) (W : World) : (Instr.sliceAt 9 (.string z) (some (.int .i64 p)) none none).run Tryz.prog W = .ok (.string (z.extract p.toNat z.size)) W := by
 simp [go_sem, Tryz.underlying9, h0, h1]
theorem bl_to (z : ByteArray) (k : Nat) : bl (z.extract 0 k) = (bl z).take k := by rw [bl_extract, List.drop_zero]
theorem bl_from (z : ByteArray) (k : Nat) : bl (z.extract k z.size) = (bl z).drop k := by rw [bl_extract, ← bl_len, List.take_length]
theorem bl46 : bl ⟨#[46]⟩ = [46] := rfl
theorem blm : bl ⟨#[101, 45]⟩ = [101, 45] := rfl
theorem blp : bl ⟨#[101, 43]⟩ = [101, 43] := rfl
theorem bl0p : bl ⟨#[48, 46]⟩ = [48, 46] := rfl
theorem d1 {l : List Nat} {p : Int} (h : (l.length : Int) ≤ p) (h2 : p ≤ 21) : printD l p = l ++ List.replicate (p - l.length).toNat 48 := by
 unfold printD; rw [if_pos ⟨h, h2⟩]
theorem d2 {l : List Nat} {p : Int} (h : ¬ (l.length : Int) ≤ p) (h1 : 1 ≤ p) (h2 : p ≤ 21) : printD l p = l.take p.toNat ++ [46] ++ l.drop p.toNat := by
 unfold printD; rw [if_neg (fun c => h c.1), if_pos ⟨h1, h2⟩]
theorem d3 {l : List Nat} {p : Int} (h : ¬ (l.length : Int) ≤ p) (h1 : -5 ≤ p) (h2 : p ≤ 0) : printD l p = [48, 46] ++ List.replicate (-p).toNat 48 ++ l := by
 unfold printD; rw [if_neg (fun c => h c.1), if_neg (by omega), if_pos ⟨h1, h2⟩]
theorem d4 {l : List Nat} {p : Int} (h : p < -5) : printD l p = l.take 1 ++ (if 1 < l.length then 46 :: l.drop 1 else []) ++ ([101, 45] ++ dgs (1 - p).toNat) := by
 unfold printD; rw [if_neg (by omega), if_neg (by omega), if_neg (by omega), if_neg (show ¬ 1 ≤ p by omega)]
theorem d5 {l : List Nat} {p : Int} (h : 21 < p) : printD l p = l.take 1 ++ (if 1 < l.length then 46 :: l.drop 1 else []) ++ ([101, 43] ++ dgs (p - 1).toNat) := by
 unfold printD; rw [if_neg (by omega), if_neg (by omega), if_neg (by omega), if_pos (show 1 ≤ p by omega)]
set_option maxRecDepth 100000 in
set_option maxHeartbeats 4000000 in
theorem lPrintFin (b : Nat) (w : World) (h0 : 0 < b) (h1 : b < INF) (ht : PowTab w) :
  Calls Tryz.prog 77 #[.float .f64 b] w fun e w' => (∃ z : ByteArray, e = .returned (.string z) ∧ bl z = printD (shD b) (shP b)) ∧ Below w.heap.size w w' := by
 have hr : rg b = b := Nat.mod_eq_of_lt (by unfold INF at h1; omega)
 have hs : sg b = false := decide_eq_false (by unfold INF at h1; omega)
 have ux : U b := by unfold U; unfold INF at h1; omega
 have CS := Lib.hid (split4 b ux)
 have CH := Lib.hid (fun w h => lShort b w ux h)
 have hc : (pCls b = 1 ∨ pCls b = 2) ∧ pNeg b = false := by
  rcases cls4 ux with h | h | h | h
  ·omega
  ·omega
  ·omega
  ·exact ⟨h.2.2.1, h.2.2.2.trans hs⟩
 rw [hr] at CH
 rw [hc.2] at CS
 obtain ⟨l1, l2, p1, p2⟩ := sh_range h0 h1
 obtain ⟨l, hl⟩ : ∃ l, l = shD b := ⟨_, rfl⟩
 rw [← hl] at CH l1 l2 ⊢
 generalize shP b = p at *
 have hc1 := hc.1
 generalize pCls b = k at *
 have g0 : (k == 0) = false := beq_eq_false_iff_ne.2 (by omega)
 have g3 : (k == 3) = false := beq_eq_false_iff_ne.2 (by omega)
 have g4 : (k == 4) = false := beq_eq_false_iff_ne.2 (by omega)
 have HT := Lib.hid ht
 clear hr hs ux hc hc1 hl h0 h1 ht
 go_enter Tryz.func77, Tryz.ntmps77
 go_upto_region 11 with (first
  | (go_at_call 133; refine (CS.out _).mono ?_; rintro e w1 ⟨⟨c, d, rfl⟩, hb⟩; have B1 := Lib.hid hb; clear hb)
  | (go_at_call 134; refine (CH.out _ (HT.out.below (B1.out.alloc B1.out.size _))).mono ?_; rintro e w2 ⟨⟨z, rfl, hz⟩, hb⟩; have B2 := Lib.hid ((B1.out.alloc B1.out.size _).trans (hb.mono (B1.out.alloc B1.out.size _).size)); have Z := Lib.hid hz; clear hb hz))
 have zs : (z.size : Int) = (l.length : Int) := by rw [← bl_len, Z.out]
 have z1 : (1 : Int) ≤ (z.size : Int) := by omega
 have z2 : (z.size : Int) ≤ 18 := by omega
 clear CS CH B1 g0 g3 g4 l1 l2
 by_cases q1 : (z.size : Int) ≤ p ∧ p ≤ 21
 ·obtain ⟨q1, q2⟩ := q1
  have E := Lib.hid (d1 (l := l) (p := p) (by omega) q2)
  have CR := Lib.hid (cRep (p - (z.size : Int)) (by omega) (by omega))
  have ZS := Lib.hid zs
  clear zs
  go_wp2_with (go_at_call 135; refine (CR.out _).mono ?_; rintro e w3 ⟨⟨r, rfl, hr, rs⟩, hb⟩; have R := Lib.hid hr; have B3 := Lib.hid (B2.out.trans (hb.mono B2.out.size)); clear hb hr)
  go_ret
  exact ⟨⟨_, rfl, by rw [bl_append, E.out, R.out, Z.out, ZS.out]⟩, B3.out⟩
 ·by_cases q2 : 1 ≤ p ∧ p ≤ 21
  ·obtain ⟨q2, q3⟩ := q2
   have q4 : ¬ (z.size : Int) ≤ p := by omega
   have E := Lib.hid (d2 (l := l) (p := p) (by omega) q2 q3)
   have q5 : p ≤ (z.size : Int) := by omega
   have q6 : 0 ≤ p := by omega
   have s1 : (z.extract 0 p.toNat).size = p.toNat := by rw [ByteArray.size_extract]; omega
   have s2 : (z.extract p.toNat z.size).size = z.size - p.toNat := by rw [ByteArray.size_extract]; omega
   have B3 := B2
   have F1 := sl_to z p q6 q5
   have F2 := sl_from z p q6 q5
   clear q1 zs
   go_wp2_with fail
   go_quiet (fail)
   go_wp2_with fail
   go_ret
   exact ⟨⟨_, rfl, by rw [bl_append, bl_append, bl_to, bl_from, bl46, E.out, Z.out]⟩, BdN B3.out _⟩
  ·by_cases q3 : -5 ≤ p ∧ p ≤ 0
   ·obtain ⟨q3, q4⟩ := q3
    have q5 : ¬ (z.size : Int) ≤ p := by omega
    have q6 : ¬ (1 : Int) ≤ p := by omega
    have E := Lib.hid (d3 (l := l) (p := p) (by omega) q3 q4)
    have CR := Lib.hid (cRep (-p) (by omega) (by omega))
    clear q1 q2 zs
    go_wp2_with (go_at_call 135; refine (CR.out _).mono ?_; rintro e w3 ⟨⟨r, rfl, hr, rs⟩, hb⟩; have R := Lib.hid hr; have B3 := Lib.hid (B2.out.trans (hb.mono B2.out.size)); clear hb hr)
    go_ret
    exact ⟨⟨_, rfl, by rw [bl_append, bl_append, E.out, R.out, Z.out]; rfl⟩, B3.out⟩
   ·have F1 := sl_to z 1 (by omega) z1
    have F2 := sl_from z 1 (by omega) z1
    have s1 : (z.extract 0 1).size = 1 := by rw [ByteArray.size_extract]; omega
    have s2 : (z.extract 1 z.size).size = z.size - 1 := by rw [ByteArray.size_extract]; omega
    have s3 : bl z = l := Z.out
    by_cases n5 : p < -5
    ·have q4 : ¬ (z.size : Int) ≤ p := by omega
     have q5 : ¬ (1 : Int) ≤ p := by omega
     have q6 : ¬ (-5 : Int) ≤ p := by omega
     by_cases h1 : 1 < l.length
     ·have z3 : (1 : Int) < (z.size : Int) := by omega
      have E := Lib.hid (d4 (l := l) (p := p) n5)
      rw [if_pos (by omega)] at E
      have CI := Lib.hid (fun w h => cIt (1 - p) (by omega) (by omega) w h)
      clear q1 q2 q3 zs h1
      go_wp2_with (go_at_call 17; refine (CI.out _ (HT.out.below B2.out)).mono ?_; rintro e w3 ⟨⟨r, rfl, hr, rs⟩, hb⟩; have R := Lib.hid hr; have B3 := Lib.hid (B2.out.trans (hb.mono B2.out.size)); clear hb hr)
      go_ret
      exact ⟨⟨_, rfl, by simp only [bl_append, bl_to, bl_from, bl46, blm, blp, E.out, R.out, Z.out, List.append_assoc, List.cons_append, List.nil_append, List.append_nil]⟩, B3.out⟩
     ·have z3 : ¬ (1 : Int) < (z.size : Int) := by omega
      have E := Lib.hid (d4 (l := l) (p := p) n5)
      rw [if_neg (by omega)] at E
      have CI := Lib.hid (fun w h => cIt (1 - p) (by omega) (by omega) w h)
      clear q1 q2 q3 zs h1
      go_wp2_with (go_at_call 17; refine (CI.out _ (HT.out.below B2.out)).mono ?_; rintro e w3 ⟨⟨r, rfl, hr, rs⟩, hb⟩; have R := Lib.hid hr; have B3 := Lib.hid (B2.out.trans (hb.mono B2.out.size)); clear hb hr)
      go_ret
      exact ⟨⟨_, rfl, by simp only [bl_append, bl_to, bl_from, bl46, blm, blp, E.out, R.out, Z.out, List.append_assoc, List.cons_append, List.nil_append, List.append_nil]⟩, B3.out⟩
    ·have n21 : 21 < p := by omega
     have q4 : (z.size : Int) ≤ p := by omega
     have q5 : (1 : Int) ≤ p := by omega
     have q6 : (-5 : Int) ≤ p := by omega
     have q7 : ¬ p ≤ 21 := by omega
     have q8 : ¬ p ≤ 0 := by omega
     clear n5
     by_cases h1 : 1 < l.length
     ·have z3 : (1 : Int) < (z.size : Int) := by omega
      have E := Lib.hid (d5 (l := l) (p := p) n21)
      rw [if_pos (by omega)] at E
      have CI := Lib.hid (fun w h => cIt (p - 1) (by omega) (by omega) w h)
      clear q1 q2 q3 zs h1
      go_wp2_with (go_at_call 17; refine (CI.out _ (HT.out.below B2.out)).mono ?_; rintro e w3 ⟨⟨r, rfl, hr, rs⟩, hb⟩; have R := Lib.hid hr; have B3 := Lib.hid (B2.out.trans (hb.mono B2.out.size)); clear hb hr)
      go_ret
      exact ⟨⟨_, rfl, by simp only [bl_append, bl_to, bl_from, bl46, blm, blp, E.out, R.out, Z.out, List.append_assoc, List.cons_append, List.nil_append, List.append_nil]⟩, B3.out⟩
     ·have z3 : ¬ (1 : Int) < (z.size : Int) := by omega
      have E := Lib.hid (d5 (l := l) (p := p) n21)
      rw [if_neg (by omega)] at E
      have CI := Lib.hid (fun w h => cIt (p - 1) (by omega) (by omega) w h)
      clear q1 q2 q3 zs h1
      go_wp2_with (go_at_call 17; refine (CI.out _ (HT.out.below B2.out)).mono ?_; rintro e w3 ⟨⟨r, rfl, hr, rs⟩, hb⟩; have R := Lib.hid hr; have B3 := Lib.hid (B2.out.trans (hb.mono B2.out.size)); clear hb hr)
      go_ret
      exact ⟨⟨_, rfl, by simp only [bl_append, bl_to, bl_from, bl46, blm, blp, E.out, R.out, Z.out, List.append_assoc, List.cons_append, List.nil_append, List.append_nil]⟩, B3.out⟩
end Go.Proofs.YtlgencbldbpbdaaGreatDoor
namespace Go.Proofs.YtlgencbldbpbdaaGreatDoor
open Go.RowKit Fl
theorem rg_small {b : Nat} (h : b ≤ INF) : rg b = b ∧ sg b = false ∧ U b := by
 unfold INF at h
 exact ⟨Nat.mod_eq_of_lt (by omega), decide_eq_false (by omega), by unfold U; omega⟩
theorem blz_size {z : ByteArray} {l : List Nat} (h : bl z = l) (hl : l.length ≤ 60) : (z.size : Int) ≤ 60 := by rw [← bl_len, h]; omega
set_option maxRecDepth 100000 in
set_option maxHeartbeats 1000000 in
theorem lPrintPos (b : Nat) (w : World) (hb : b ≤ INF) (ht : PowTab w) :
  Calls Tryz.prog 77 #[.float .f64 b] w fun e w' => (∃ z : ByteArray, e = .returned (.string z) ∧ bl z = bodyF b ∧ (z.size : Int) ≤ 60) ∧ Below w.heap.size w w' := by
 obtain ⟨e1, e2, ux⟩ := rg_small hb
 by_cases h0 : b = 0
 ·subst h0
  have CS := Lib.hid (split4 0 ux)
  have hc : pCls 0 = 0 ∧ pNeg 0 = false := by decide
  rw [hc.1, hc.2] at CS
  clear ux e1 e2 hc hb ht
  go_enter Tryz.func77, Tryz.ntmps77
  go_wp2_with (go_at_call 133; refine (CS.out _).mono ?_; rintro e w1 ⟨⟨c, d, rfl⟩, hb⟩; have B1 := Lib.hid hb; clear hb)
  go_ret
  exact ⟨⟨_, rfl, rfl, by decide⟩, B1.out.alloc B1.out.size _⟩
 ·by_cases h1 : b = INF
  ·subst h1
   have CS := Lib.hid (split4 INF ux)
   have hc : pCls INF = 3 ∧ pNeg INF = false := by decide
   rw [hc.1, hc.2] at CS
   have HR : Hid (bodyF INF = [73, 110, 102, 105, 110, 105, 116, 121]) := Lib.hid (by unfold bodyF; rw [if_neg (by decide), if_pos rfl])
   clear ux e1 e2 hc hb ht h0
   go_enter Tryz.func77, Tryz.ntmps77
   go_wp2_with (go_at_call 133; refine (CS.out _).mono ?_; rintro e w1 ⟨⟨c, d, rfl⟩, hb⟩; have B1 := Lib.hid hb; clear hb)
   go_ret
   exact ⟨⟨_, rfl, by rw [HR.out]; rfl, by decide⟩, B1.out.alloc B1.out.size _⟩
  ·refine (lPrintFin b w (by omega) (by omega) ht).mono ?_
   rintro e w' ⟨⟨z, rfl, hz⟩, h⟩
   have e : bl z = bodyF b := by rw [hz]; unfold bodyF; rw [if_neg h0, if_neg h1]
   exact ⟨⟨z, rfl, e, blz_size e (bodyF_len hb)⟩, h⟩
set_option maxRecDepth 100000 in
set_option maxHeartbeats 1000000 in
theorem lPrint (x : Nat) (w : World) (hx : U x) (ht : PowTab w) :
  Calls Tryz.prog 77 #[.float .f64 x] w fun e w' => (∃ z : ByteArray, e = .returned (.string z) ∧ bl z = printF x ∧ (z.size : Int) ≤ 61) ∧ Below w.heap.size w w' := by
 have CS := Lib.hid (split4 x hx)
 by_cases hn : INF < rg x
 ·have hc : pCls x = 4 ∧ pNeg x = false := by
   rcases cls4 hx with h | h | h | h
   ·exact h.2
   ·omega
   ·omega
   ·omega
  rw [hc.1, hc.2] at CS
  have HR : Hid (printF x = [78, 97, 78]) := Lib.hid (by unfold printF; rw [if_pos hn])
  clear hc hn ht hx
  go_enter Tryz.func77, Tryz.ntmps77
  go_wp2_with (go_at_call 133; refine (CS.out _).mono ?_; rintro e w1 ⟨⟨c, d, rfl⟩, hb⟩; have B1 := Lib.hid hb; clear hb)
  go_ret
  exact ⟨⟨_, rfl, by rw [HR.out]; rfl, by decide⟩, B1.out.alloc B1.out.size _⟩
 ·have hc : (pCls x == 4) = false ∧ pNeg x = sg x := by
   rcases cls4 hx with h | h | h | h
   ·omega
   ·exact ⟨by rw [h.2.1]; rfl, h.2.2⟩
   ·exact ⟨by rw [h.2.1]; rfl, h.2.2⟩
   ·exact ⟨beq_eq_false_iff_ne.2 (by omega), h.2.2.2⟩
  have hle : rg x ≤ INF := by omega
  rcases hs : sg x with _ | _
  ·have hx2 : rg x = x := by
    have := hx.lt
    unfold sg at hs
    have h2 := of_decide_eq_false hs
    unfold rg at *
    omega
   refine (lPrintPos x w (by omega) ht).mono ?_
   rintro e w' ⟨⟨z, rfl, hz, h1⟩, h⟩
   have e : bl z = printF x := by
    unfold printF
    rw [if_neg hn, hs, hx2, hz]; rfl
   exact ⟨⟨z, rfl, e, by omega⟩, h⟩
  ·rw [hc.2, hs] at CS
   have CP := Lib.hid (fun w h => lPrintPos (rg x) w hle h)
   have CA := Lib.hid (fun w => c133 x w hx)
   have HR : Hid (printF x = 45 :: bodyF (rg x)) := Lib.hid (by unfold printF; rw [if_neg hn, hs]; rfl)
   have g4 := hc.1
   generalize pCls x = k at *
   have HT := Lib.hid ht
   clear hc hn ht hx hle hs
   go_enter Tryz.func77, Tryz.ntmps77
   go_wp2_with (first
    | (go_at_call 133; refine (CS.out _).mono ?_; rintro e w1 ⟨⟨c, d, rfl⟩, hb⟩; have B1 := Lib.hid hb; clear hb)
    | (go_at_call 26; refine (CA.out _).mono ?_; rintro e w2 ⟨rfl, rfl⟩)
    | (go_at_call 77; refine (CP.out _ (HT.out.below (B1.out.alloc B1.out.size _))).mono ?_; rintro e w3 ⟨⟨z, rfl, hz, zs⟩, hb⟩; have Z := Lib.hid hz; have B2 := Lib.hid ((B1.out.alloc B1.out.size _).trans (hb.mono (B1.out.alloc B1.out.size _).size)); clear hb hz))
   go_ret
   exact ⟨⟨_, rfl, by rw [bl_append, HR.out, Z.out]; rfl, by rw [ByteArray.size_append]; have : (⟨#[45]⟩ : ByteArray).size = 1 := rfl; omega⟩, B2.out⟩
end Go.Proofs.YtlgencbldbpbdaaGreatDoor
