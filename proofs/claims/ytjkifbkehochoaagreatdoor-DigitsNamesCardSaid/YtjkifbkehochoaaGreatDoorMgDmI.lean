/- For digits.Shortest: plain laws and contracts in the form of its walk. digits.Shortest: the walk. -/
import Derived.Test.YtjkifbkehochoaaGreatDoorMgDmH
import Derived.Test.YtjkifbkehochoaaGreatDoorMgDkB
import Derived.Deep.DeepCutAuto
import Derived.Deep.CutBlock
namespace Go.Proofs.YtjkifbkehochoaaGreatDoor
open Go.RowKit Fl
theorem powN : Tryz.prog.globalNamed "internal/strconv.uint64pow10" = some 1 := by kernel_rfl
theorem PowTab.below {w wx : World} (h : PowTab w) (hb : Below w.heap.size w wx) : PowTab wx := Go.Joins.tab_stays powN h hb (Nat.le_refl _)
/-- the class by the number's word -/
theorem cls_out {x : Nat} (hx : U x) : (rg x = 0 ∧ pCls x = 0) ∨ (INF ≤ rg x ∧ (pCls x = 3 ∨ pCls x = 4)) ∨ (0 < rg x ∧ rg x < INF ∧ (pCls x = 1 ∨ pCls x = 2)) := by
  unfold pCls eM fM rg INF
  have : x < 18446744073709551616 := hx.lt
  split
  · split
    · right; left; exact ⟨by omega, .inl rfl⟩
    · right; left; exact ⟨by omega, .inr rfl⟩
  · split
    · split
      · left; exact ⟨by omega, rfl⟩
      · right; right; exact ⟨by omega, by omega, .inl rfl⟩
    · right; right; exact ⟨by omega, by omega, .inr rfl⟩
/-- a number of one word -/
theorem one_word {w : World} {v : Value} {q : Nat} (h : NV w v q) (h0 : 0 < q) (h1 : q < BB) : ∃ b o c, v = .slice (some ⟨b, o, none⟩) 1 c ∧ 1 ≤ c ∧ c ≤ maxLen ∧ b < w.heap.size ∧ w.cell? ⟨b, o, none⟩ = some (.int .u64 q) := by
  obtain ⟨l, hl, hc, hv⟩ := h
  have e : l = [q] := by
    rcases l with _ | ⟨x, l⟩
    · have : q = 0 := hv.symm; omega
    · rcases l with _ | ⟨y, l⟩
      · rw [val, val, Nat.mul_zero, Nat.add_zero] at hv
        rw [hv]
      · exfalso
        have h2 := len_small hl.1 hc (n := 1) (by rw [hv]; exact blen_lt _ _ h1)
        simp at h2
  subst e
  obtain ⟨b, o, c, e, h2, h3, h4⟩ := hl.addr (by simp)
  exact ⟨b, o, c, e, h2, h3, h4.1, h4.2 0 q rfl⟩
/-- the quotient and the rest, scaled -/
theorem quo_scale {A B v : Nat} {p : Int} {n : Nat} (hB : 0 < B) (h : A * TK = v * B) :
    A * 10 ^ (n - p).toNat / (B * 10 ^ (p - n).toNat) = qS v p n ∧ A * 10 ^ (n - p).toNat % (B * 10 ^ (p - n).toNat) * TK = rS v p n * B ∧ B * 10 ^ (p - n).toNat * TK = denS p n * B := by
  have e1 : A * 10 ^ (n - p).toNat * TK = numS v p n * B := by
    unfold numS; rw [Nat.mul_right_comm, h, Nat.mul_right_comm]
  have e2 : B * 10 ^ (p - n).toNat * TK = denS p n * B := by
    unfold denS; rw [Nat.mul_right_comm, Nat.mul_comm B TK, Nat.mul_right_comm]
  refine ⟨?_, ?_, e2⟩
  · unfold qS
    rw [← Nat.mul_div_mul_right _ _ TK_pos, e1, e2, Nat.mul_div_mul_right _ _ hB]
  · unfold rS
    rw [← Nat.mul_mod_mul_right, e1, e2, Nat.mul_mod_mul_right]
/-- what is chosen, by the words of the walk -/
theorem sel_by {b n q D R B : Nat} {p : Int} (hB : 0 < B) (hq : q = qS (V b) p n) (hR : R * TK = rS (V b) p n * B) (hD : D * TK = denS p n * B) (hlt : R < D) :
    selS b p n = if rdS b p n q = true then (if rdS b p n (q + 1) = true ∧ (D - R < R ∨ (D - R = R ∧ (q + 1) % 2 = 0)) then some (q + 1) else some q) else if rdS b p n (q + 1) = true then some (q + 1) else none := by
  have h1 : denS p n < 2 * rS (V b) p n ↔ D - R < R := by
    constructor
    · intro c
      have c2 : denS p n * B < 2 * rS (V b) p n * B := Nat.mul_lt_mul_of_pos_right c hB
      rw [← hD, Nat.mul_assoc, ← hR, ← Nat.mul_assoc] at c2
      have := Nat.lt_of_mul_lt_mul_right c2
      omega
    · intro c
      have c2 : D * TK < 2 * R * TK := Nat.mul_lt_mul_of_pos_right (by omega) TK_pos
      rw [hD, Nat.mul_assoc, hR, ← Nat.mul_assoc] at c2
      exact Nat.lt_of_mul_lt_mul_right c2
  have h2 : denS p n = 2 * rS (V b) p n ↔ D - R = R := by
    constructor
    · intro c
      have c2 : denS p n * B = 2 * rS (V b) p n * B := by rw [c]
      rw [← hD, Nat.mul_assoc, ← hR, ← Nat.mul_assoc] at c2
      have := Nat.eq_of_mul_eq_mul_right TK_pos c2
      omega
    · intro c
      have c2 : D * TK = 2 * R * TK := by rw [show D = 2 * R by omega]
      rw [hD, Nat.mul_assoc, hR, ← Nat.mul_assoc] at c2
      exact Nat.eq_of_mul_eq_mul_right hB c2
  have h3 : (q + 1) % 2 = 0 ↔ q % 2 = 1 := by omega
  subst hq
  unfold selS
  simp only [h1, h2, h3]
/-- which of the two is taken, by three answers -/
def pick2 (M0 M1 : Bool) (q : Nat) (T : Prop) [Decidable T] : Option Nat := if M0 = false then (if M1 = false ∧ T then some (q + 1) else some q) else if M1 = false then some (q + 1) else none
theorem sel_pick {b n q D R B : Nat} {p : Int} {M0 M1 : Bool} (hB : 0 < B) (hq : q = qS (V b) p n) (hR : R * TK = rS (V b) p n * B) (hD : D * TK = denS p n * B) (hlt : R < D) (m0 : M0 = !rdS b p n q) (m1 : M1 = !rdS b p n (q + 1)) :
    selS b p n = pick2 M0 M1 q (D - R < R ∨ (D - R = R ∧ (q + 1) % 2 = 0)) := by
  rw [sel_by hB hq hR hD hlt]
  unfold pick2
  rw [m0, m1]
  simp only [Bool.not_eq_false']
/-- reading digits that are tried -/
theorem cRd {b n d : Nat} {p : Int} (h0 : 0 < b) (h1 : b < INF) (p1 : -359 ≤ p) (p2 : p ≤ 350) (n1 : 1 ≤ n) (n2 : n ≤ 17) (d0 : 0 < d) (d1 : d ≤ 100000000000000000) :
    ∀ (w : World) (z : ByteArray), bl z = trimD (dgs d) → Calls Tryz.prog 28 #[.string z, .int .i64 (p + Lib.nDigits d - n)] w fun e w' => (∃ y, e = .returned (.float .f64 y) ∧ (FloatKind.f64.format.order y b != some Ordering.eq) = !rdS b p n d) ∧ Below w.heap.size w w' := by
  intro w z hz
  have nd : Lib.nDigits d ≤ 18 := nd_le (by have : (10 : Nat) ^ 18 = 1000000000000000000 := by decide
                                            omega) (by decide)
  have nd1 : 0 < Lib.nDigits d := by rw [← dgs_len]; exact List.length_pos_iff.2 (dgs_ne d)
  have hl : (trimD (dgs d)).length ≤ 18 := by
    unfold trimD
    rw [List.length_take, dgs_len]; omega
  have hdg : DG (bl z) := by
    rw [hz]
    intro x hx
    exact dgs_dg d x (List.mem_of_mem_take hx)
  refine (lRead z (p + Lib.nDigits d - n) w hdg (by rw [← bl_len, hz]; omega) (by omega)).mono ?_
  rintro e w' ⟨rfl, hb⟩
  refine ⟨⟨_, rfl, ?_⟩, hb⟩
  have hle := readF_le (bl z) (p + Lib.nDigits d - n)
  have e1 : readF (bl z) (p + Lib.nDigits d - n) = rungM (d * 10 ^ (p - n).toNat * TK) (10 ^ (n - p).toNat) := by
    rw [hz, read_dgs d0 (by omega) (by omega) (by omega), show p + (Lib.nDigits d : Int) - n - Lib.nDigits d = p - n by omega, show (-(p - (n : Int))).toNat = ((n : Int) - p).toNat by omega]
    rfl
  unfold rdS
  rw [← e1]
  generalize readF (bl z) (p + Lib.nDigits d - n) = y at *
  rw [ord_pos hle (Nat.le_of_lt h1), compare_int]
  by_cases c : y = b
  · subst c
    rw [if_neg (by omega), if_pos rfl, decide_eq_true rfl]; rfl
  · rw [decide_eq_false c]
    rcases Nat.lt_or_gt_of_ne c with c | c
    · rw [if_pos (by omega)]; rfl
    · rw [if_neg (by omega), if_neg (by omega)]; rfl
theorem cTrim (s : ByteArray) (w : World) (d : Nat) (d1 : d ≤ 100000000000000000) (hs : bl s = dgs d) :
    Calls Tryz.prog 42 #[.string s, .string ⟨#[48]⟩] w fun e w' => (∃ z : ByteArray, e = .returned (.string z) ∧ bl z = trimD (dgs d)) ∧ w = w' := by
  have nd : Lib.nDigits d ≤ 18 := nd_le (by have : (10 : Nat) ^ 18 = 1000000000000000000 := by decide
                                            omega) (by decide)
  have sz : s.size = Lib.nDigits d := by rw [← bl_len, hs, dgs_len]
  refine (lTrimR s w (by omega)).mono ?_
  rintro e w' ⟨⟨z, rfl, hz⟩, rfl⟩
  refine ⟨⟨z, rfl, ?_⟩, rfl⟩
  rw [hz, hs, sz]
  unfold trimD
  rw [dgs_len]
theorem te_pos {l : List Nat} (h0 : l.getD 0 0 ≠ 48) : ∀ k, 0 < k → 0 < te l 0 k
  | k + 1, _ => by
    rw [te]
    by_cases h : 0 < k + 1 ∧ l.getD k 0 = 48
    · rw [if_pos h]
      have : 0 < k := by
        rcases Nat.eq_zero_or_pos k with c | c
        · subst c; exact absurd h.2 h0
        · exact c
      exact te_pos h0 k this
    · rw [if_neg h]; omega
theorem trim_ne {d : Nat} (h : 0 < d) : trimD (dgs d) ≠ [] := by
  unfold trimD
  intro e
  have h1 : 0 < te (dgs d) 0 (dgs d).length := te_pos (dgs_head d h) _ (List.length_pos_iff.2 (dgs_ne d))
  have h2 := congrArg List.length e
  have h3 := List.length_pos_iff.2 (dgs_ne d)
  rw [List.length_take, List.length_nil] at h2
  omega
end Go.Proofs.YtjkifbkehochoaaGreatDoor

namespace Go.Proofs.YtjkifbkehochoaaGreatDoor
open Go.RowKit Fl
/-- what the inner rounds hold -/
def RI (k : Nat) (M0 M1 : Bool) (q : Nat) (T : Prop) [Decidable T] (pl : Nat → Int) (R : Nat) (z : ByteArray) (av : Int) (g : Value) (wx : World) : Prop :=
  (k = 0 ∧ z = ⟨#[]⟩) ∨
  (k = 1 ∧ ((M0 = true ∧ z = ⟨#[]⟩) ∨ (M0 = false ∧ bl z = trimD (dgs q) ∧ av = pl q ∧ NV wx g R))) ∨
  (k = 2 ∧ ((pick2 M0 M1 q T = none ∧ z = ⟨#[]⟩) ∨ ∃ d, pick2 M0 M1 q T = some d ∧ 0 < d ∧ bl z = trimD (dgs d) ∧ av = pl d))
theorem bl_full {z : ByteArray} (h : bl z ≠ []) : 0 < z.size := by
  rw [← bl_len]; exact List.length_pos_iff.2 h
theorem e17s {n : Nat} (h : n ≤ 17) : 10 ^ n ≤ 100000000000000000 := by
  have := Nat.pow_le_pow_right (show 0 < 10 by decide) h
  rwa [show (10 : Nat) ^ 17 = 100000000000000000 from by decide] at this
theorem f56 (a : Bool) (k c d : Int) (W : World) : (Instr.field 56 (.agg #[.bool a, .int .i64 k, .int .u64 c, .int .i64 d]) 1).run Tryz.prog W = .ok (.int .i64 k) W := by
  simp [Instr.field, go_sem, Tryz.isAgg54, part, asAgg]
set_option maxRecDepth 100000 in
set_option maxHeartbeats 4000000 in
theorem lShort (x : Nat) (w : World) (hx : U x) (ht : PowTab w) :
    Calls Tryz.prog 16 #[.float .f64 x] w fun e w' => (∃ z : ByteArray, e = .returned (.tuple #[.string z, .int .i64 (shP (rg x))]) ∧ bl z = shD (rg x)) ∧ Below w.heap.size w w' := by
  have CS : Hid (∀ w, Calls Tryz.prog 29 #[.float .f64 x] w fun e w' => (∃ (a : Bool) (c d : Int), e = .returned (.agg #[.bool a, .int .i64 (pCls x), .int .u64 c, .int .i64 d])) ∧ Below w.heap.size w w') := Lib.hid (fun w => (c30 x w hx).mono (by rintro e w' ⟨rfl, hb⟩; exact ⟨⟨_, _, _, rfl⟩, hb⟩))
  have hcl := cls_out hx
  have C22 := Lib.hid (fun w => c133 x w hx)
  generalize pCls x = k at *
  generalize rg x = b at *
  clear hx
  have HT := Lib.hid ht
  clear ht
  rcases hcl with ⟨h0, hc⟩ | ⟨hI, hc⟩ | ⟨h0, h1, hc⟩
  · have E1 : Hid (shD b = []) := Lib.hid (by unfold shD; rw [if_pos (.inl h0)])
    have E2 : Hid (shP b = 0) := Lib.hid (by unfold shP; rw [if_pos (.inl h0)])
    subst hc
    clear h0
    go_enter Tryz.func16, Tryz.ntmps16
    go_wp2_with (go_at_call 29; refine (CS.out _).mono ?_; rintro e w1 ⟨⟨a, c, d, rfl⟩, hb⟩; have F := f56 a 0 c d; have B := Lib.hid hb; clear hb)
    go_ret2
    exact ⟨⟨_, by rw [E2.out]; rfl, by rw [E1.out]; rfl⟩, B.out⟩
  · have E1 : Hid (shD b = []) := Lib.hid (by unfold shD; rw [if_pos (.inr hI)])
    have E2 : Hid (shP b = 0) := Lib.hid (by unfold shP; rw [if_pos (.inr hI)])
    clear hI
    rcases hc with hc | hc
    · subst hc
      go_enter Tryz.func16, Tryz.ntmps16
      go_wp2_with (go_at_call 29; refine (CS.out _).mono ?_; rintro e w1 ⟨⟨a, c, d, rfl⟩, hb⟩; have F := f56 a 3 c d; have B := Lib.hid hb; clear hb)
      go_ret2
      exact ⟨⟨_, by rw [E2.out]; rfl, by rw [E1.out]; rfl⟩, B.out⟩
    · subst hc
      go_enter Tryz.func16, Tryz.ntmps16
      go_wp2_with (go_at_call 29; refine (CS.out _).mono ?_; rintro e w1 ⟨⟨a, c, d, rfl⟩, hb⟩; have F := f56 a 4 c d; have B := Lib.hid hb; clear hb)
      go_ret2
      exact ⟨⟨_, by rw [E2.out]; rfl, by rw [E1.out]; rfl⟩, B.out⟩
  · have v0 : 0 < V b := by have := V_lt h0; omega
    have vI : V b ≤ V INF := V_le (Nat.le_of_lt h1)
    have LO := Lib.hid (le10_low v0)
    have HI := Lib.hid (le10_high vI)
    obtain ⟨A, B, hB, hAB, bA, bB, hP⟩ := lParts h0 h1
    have CP := Lib.hid hP
    obtain ⟨y, my, hy⟩ := cLog10 h0 h1
    have CL := Lib.hid hy
    obtain ⟨z, z1, z2, f, hf, hcv⟩ := cFloor my
    have CF := Lib.hid hf
    have CB := Lib.hid (fun (p : Int) (wx : World) (va vb : Value) (ha : NV wx va A) (hb : NV wx vb B) (p1 : -2220 ≤ p) (p2 : p ≤ 2220) => lBelow (v := V b) ha hb hB hAB bA bB p1 p2)
    have HB := Lib.hid (And.intro h0 h1)
    have HAB := Lib.hid (And.intro hB hAB)
    have SZ := Lib.hid (And.intro bA bB)
    have PU := Lib.hid (fun (p : Int) (h : IsP (V b) p) => h.unique (place_is v0 vI))
    have PR := Lib.hid (fun (p : Int) (h : IsP (V b) p) => h.range v0 vI)
    have ED : Hid (shD b = trimD (dgs (shS b).1)) := Lib.hid (by unfold shD; rw [if_neg (by omega)])
    have EP : Hid (shP b = placeF (V b) + Lib.nDigits (shS b).1 - (shS b).2) := Lib.hid (by unfold shP; rw [if_neg (by omega)])
    have ES : Hid (shS b = srchS b (placeF (V b)) 17 1) := Lib.hid rfl
    have g0 : (k == 0) = false := beq_eq_false_iff_ne.2 (by omega)
    have g3 : (k == 3) = false := beq_eq_false_iff_ne.2 (by omega)
    have g4 : (k == 4) = false := beq_eq_false_iff_ne.2 (by omega)
    clear h0 h1 v0 vI hP hy my hf hB hAB bA bB hc
    go_enter Tryz.func16, Tryz.ntmps16
    go_upto_block 1 with (first
      | (go_at_call 29; refine (CS.out _).mono ?_; rintro e w1 ⟨⟨a, c, d, rfl⟩, hb⟩; have F := f56 a k c d; have B1 := Lib.hid hb; clear hb)
      | (go_at_call 22; refine (C22.out _).mono ?_; rintro e w2 ⟨rfl, rfl⟩)
      | (go_at_call 34; refine (CP.out _).mono ?_; rintro e w3 ⟨hb, va, vb, rfl, ha, hb2⟩; have B2 := Lib.hid (B1.out.trans (hb.mono B1.out.size)); have NA0 := Lib.hid (And.intro ha hb2); clear hb ha hb2)
      | (go_at_call 36; refine (CL.out _).mono ?_; rintro e w4 ⟨rfl, rfl⟩)
      | (go_at_call 35; refine (CF.out _).mono ?_; rintro e w5 ⟨rfl, rfl⟩))
    clear CS C22 CP CL CF
    have HZ := Lib.hid (And.intro z1 z2)
    go_cut [6] (fun u wx => ∃ p : Int, u = .int .i64 p ∧ -2213 ≤ p ∧ p ≤ 2214 ∧ Hid (le10 (p - 1) (V b) = true) ∧ Hid (Below w3.heap.size w3 wx))
    case first =>
      clear g0 g3 g4 PU PR ED EP ES
      go_wp2_with fail
      go_loopw [6] (fun u wx => ∃ p : Int, u = .int .i64 p ∧ -2213 ≤ p ∧ p ≤ 2214 ∧ Hid (Below w3.heap.size w3 wx)) (fun u _ => (intOf u + 3000).toNat)
      case atStart => exact ⟨z + 1, by go_num, by omega, by omega, Lib.hid (Below.refl _ _)⟩
      case round =>
        obtain ⟨p, rfl, p1, p2, hI⟩ := hrel
        have C := Lib.hid (CB.out (p - 1) wr va vb (NA0.out.1.below hI.out) (NA0.out.2.below hI.out) (by omega) (by omega))
        rcases hle : le10 (p - 1) (V b) with _ | _
        · have p3 : -359 ≤ p - 1 := by
            rcases Int.lt_or_le (p - 1) (-359) with c | c
            · have := le10_anti (show p - 1 ≤ -360 by omega) LO.out
              rw [hle] at this; cases this
            · exact c
          rw [hle] at C
          clear hle CB z1 z2 hcv
          go_wp2_with (go_at_call 37; refine C.out.mono ?_; rintro e w6 ⟨rfl, hb⟩; have B6 := Lib.hid (hI.out.trans (hb.mono hI.out.size)); clear hb)
          go_roundw
          case rel => exact ⟨p - 1, by go_num, by omega, by omega, B6⟩
          case measure => simp [intOf]; omega
        · have HL := Lib.hid hle
          rw [hle] at C
          clear hle CB z1 z2 hcv
          go_wp2_with (go_at_call 37; refine C.out.mono ?_; rintro e w6 ⟨rfl, hb⟩; have B6 := Lib.hid (hI.out.trans (hb.mono hI.out.size)); clear hb)
          go_meet
          exact ⟨p, rfl, p1, p2, HL, B6⟩
    case rest =>
      obtain ⟨p0, rfl, q1, q2, HL, BW⟩ := hcut
      clear z1 z2 hcv g0 g3 g4 HZ
      go_upto_block 3 with fail
      go_cut [6] (fun u wx => ∃ p : Int, u = .int .i64 p ∧ Hid (IsP (V b) p) ∧ Hid (Below w3.heap.size w3 wx))
      case first =>
        clear PU PR ED EP ES
        go_wp2_with fail
        go_loopw [6] (fun u wx => ∃ p : Int, u = .int .i64 p ∧ -2213 ≤ p ∧ p ≤ 2214 ∧ Hid (le10 (p - 1) (V b) = true) ∧ Hid (Below w3.heap.size w3 wx)) (fun u _ => (3000 - intOf u).toNat)
        case atStart => exact ⟨p0, rfl, q1, q2, HL, BW⟩
        case round =>
          obtain ⟨p, rfl, p1, p2, hL, hI⟩ := hrel
          have C := Lib.hid (CB.out p wr va vb (NA0.out.1.below hI.out) (NA0.out.2.below hI.out) (by omega) (by omega))
          rcases hle : le10 p (V b) with _ | _
          · have HP : Hid (IsP (V b) p) := Lib.hid ⟨hL.out, hle⟩
            rw [hle] at C
            clear hle CB q1 q2
            go_wp2_with (go_at_call 37; refine C.out.mono ?_; rintro e w6 ⟨rfl, hb⟩; have B6 := Lib.hid (hI.out.trans (hb.mono hI.out.size)); clear hb)
            go_meet
            exact ⟨p, rfl, HP, B6⟩
          · have p3 : p < 350 := by
              rcases Int.lt_or_le p 350 with c | c
              · exact c
              · have := le10_anti c hle
                rw [HI.out] at this; cases this
            have HP : Hid (le10 (p + 1 - 1) (V b) = true) := Lib.hid (by rw [show p + 1 - 1 = p by omega]; exact hle)
            rw [hle] at C
            clear hle CB q1 q2
            go_wp2_with (go_at_call 37; refine C.out.mono ?_; rintro e w6 ⟨rfl, hb⟩; have B6 := Lib.hid (hI.out.trans (hb.mono hI.out.size)); clear hb)
            go_roundw
            case rel => exact ⟨p + 1, by go_num, by omega, by omega, HP, B6⟩
            case measure => simp [intOf]; omega
      case rest =>
        obtain ⟨p, rfl, hp, BX⟩ := hcut
        clear q1 q2 HL BW
        have epl := PU.out p hp.out
        obtain ⟨r1, r2⟩ := PR.out p hp.out
        rw [← epl] at EP ES
        clear epl PU PR LO HI CB
        have BY : Hid (Below w.heap.size w wc) := Lib.hid (B2.out.trans (BX.out.mono B2.out.size))
        have NY : Hid (NV wc va A ∧ NV wc vb B) := Lib.hid ⟨NA0.out.1.below BX.out, NA0.out.2.below BX.out⟩
        clear BX NA0 B2 B1
        have CD := Lib.hid (fun (n d : Nat) (n1 : 1 ≤ n) (n2 : n ≤ 17) (d0 : 0 < d) (d1 : d ≤ 100000000000000000) => cRd (b := b) (n := n) (d := d) (p := p) HB.out.1 HB.out.2 r1 r2 n1 n2 d0 d1)
        go_wp2_with fail
        go_loopw [7] (fun u wx => ∃ n : Nat, u = .int .i64 n ∧ 1 ≤ n ∧ n ≤ 17 ∧ Hid (srchS b p (18 - n) n = shS b) ∧ Hid (Below w.heap.size w wx ∧ NV wx va A ∧ NV wx vb B)) (fun u _ => 18 - (intOf u).toNat)
        case atStart => exact ⟨1, rfl, Nat.le_refl _, by decide, Lib.hid ES.out.symm, Lib.hid ⟨BY.out, NY.out.1, NY.out.2⟩⟩
        case round =>
          obtain ⟨n, rfl, n1, n2, hS, hW⟩ := hrel
          clear BY NY ES
          have n1i : (1 : Int) ≤ (n : Int) := by omega
          have n2i : (n : Int) ≤ 17 := by omega
          have HN := Lib.hid (And.intro n1 n2)
          obtain ⟨A1, hA1⟩ : ∃ A1, A1 = A * 10 ^ (n - p).toNat := ⟨_, rfl⟩
          obtain ⟨D1, hD1⟩ : ∃ D1, D1 = B * 10 ^ (p - n).toNat := ⟨_, rfl⟩
          have HA1 := Lib.hid hA1
          have HD1 := Lib.hid hD1
          clear hA1 hD1 n1 n2
          go_upto_if 60 with fail
          go_cut [8, 9] (fun u v wx => Hid (Below wr.heap.size wr wx ∧ NV wx u A1 ∧ NV wx v D1))
          case first =>
            clear CD ED EP hS HT
            rcases Int.lt_or_le (n : Int) p with hc | hc
            · obtain ⟨k2, hk⟩ : ∃ k2 : Nat, p - (n : Int) = k2 := ⟨(p - n).toNat, by omega⟩
              have hk4 : k2 ≤ 400 := by omega
              have CT : Hid (∀ w, Calls Tryz.prog 39 #[.int .i64 (p - (n : Int))] w fun e w' => Below w.heap.size w w' ∧ ∃ v, e = .returned v ∧ NV w' v (10 ^ k2)) := Lib.hid (fun w => by rw [hk]; exact lTen k2 w (by omega))
              have bT : Hid (blen A ≤ 10000 ∧ blen B ≤ 10000 ∧ blen (10 ^ k2) ≤ 10000) := Lib.hid ⟨by have := SZ.out.1; omega, by have := SZ.out.2; omega, by have := blen_ten k2; omega⟩
              have e1 : Hid (A1 = A) := Lib.hid (by rw [HA1.out, show ((n : Int) - p).toNat = 0 by omega, Nat.pow_zero, Nat.mul_one])
              have e2 : Hid (D1 = B * 10 ^ k2) := Lib.hid (by rw [HD1.out, hk, Int.toNat_natCast])
              have hc2 : ¬ p ≤ (n : Int) := by omega
              clear hk hk4
              go_wp2_with (first
                | (go_at_call 39; refine (CT.out _).mono ?_; rintro e w6 ⟨hb, v6, rfl, hv⟩; have B6 := Lib.hid hb; have K6 := Lib.hid hv; have A6 := Lib.hid (And.intro (hW.out.2.1.below hb) (hW.out.2.2.below hb)); clear hb hv)
                | (go_at_call 38; refine (lMul A6.out.2 K6.out bT.out.2.1 bT.out.2.2).mono ?_; rintro e w7 ⟨hb, v7, rfl, hv⟩; have B7 := Lib.hid (B6.out.trans (hb.mono B6.out.size)); have K7 := Lib.hid hv; have A7 := Lib.hid (A6.out.1.below hb); clear hb hv))
              go_meet
              exact Lib.hid ⟨B7.out, by rw [e1.out]; exact A7.out, by rw [e2.out]; exact K7.out⟩
            · obtain ⟨k2, hk⟩ : ∃ k2 : Nat, (n : Int) - p = k2 := ⟨(n - p).toNat, by omega⟩
              have hk4 : k2 ≤ 400 := by omega
              have CT : Hid (∀ w, Calls Tryz.prog 39 #[.int .i64 ((n : Int) - p)] w fun e w' => Below w.heap.size w w' ∧ ∃ v, e = .returned v ∧ NV w' v (10 ^ k2)) := Lib.hid (fun w => by rw [hk]; exact lTen k2 w (by omega))
              have bT : Hid (blen A ≤ 10000 ∧ blen B ≤ 10000 ∧ blen (10 ^ k2) ≤ 10000) := Lib.hid ⟨by have := SZ.out.1; omega, by have := SZ.out.2; omega, by have := blen_ten k2; omega⟩
              have e1 : Hid (D1 = B) := Lib.hid (by rw [HD1.out, show (p - (n : Int)).toNat = 0 by omega, Nat.pow_zero, Nat.mul_one])
              have e2 : Hid (A1 = A * 10 ^ k2) := Lib.hid (by rw [HA1.out, hk, Int.toNat_natCast])
              clear hk hk4
              go_wp2_with (first
                | (go_at_call 39; refine (CT.out _).mono ?_; rintro e w6 ⟨hb, v6, rfl, hv⟩; have B6 := Lib.hid hb; have K6 := Lib.hid hv; have A6 := Lib.hid (And.intro (hW.out.2.1.below hb) (hW.out.2.2.below hb)); clear hb hv)
                | (go_at_call 38; refine (lMul A6.out.1 K6.out bT.out.1 bT.out.2.2).mono ?_; rintro e w7 ⟨hb, v7, rfl, hv⟩; have B7 := Lib.hid (B6.out.trans (hb.mono B6.out.size)); have K7 := Lib.hid hv; have A7 := Lib.hid (A6.out.2.below hb); clear hb hv))
              go_meet
              exact Lib.hid ⟨B7.out, by rw [e2.out]; exact K7.out, by rw [e1.out]; exact A7.out⟩
          case rest =>
            have hC := hcut
            clear hcut
            have hr := q_range hp.out HN.out.1
            have h17 := e17s HN.out.2
            have hsc := quo_scale (p := p) (n := n) HAB.out.1 HAB.out.2
            rw [← HA1.out, ← HD1.out] at hsc
            obtain ⟨q, hq⟩ : ∃ q, q = qS (V b) p n := ⟨_, rfl⟩
            obtain ⟨R, hR⟩ : ∃ R, R = A1 % D1 := ⟨_, rfl⟩
            rw [← hq] at hr hsc
            rw [← hR] at hsc
            have q0 : 0 < q := by have := Nat.pow_pos (n := n - 1) (show 0 < 10 by decide); omega
            have q99 : q < 100000000000000000 := by omega
            have D0 : 0 < D1 := by rw [HD1.out]; exact Nat.mul_pos HAB.out.1 (Nat.pow_pos (by decide))
            have RD : R < D1 := by rw [hR]; exact Nat.mod_lt _ D0
            have s1 : blen A1 ≤ 3200 := by
              rw [HA1.out]
              have h1 := blen_mul_le A (10 ^ ((n : Int) - p).toNat)
              have h2 := blen_ten ((n : Int) - p).toNat
              have := SZ.out.1
              omega
            have s2 : blen D1 ≤ 3200 := by
              rw [HD1.out]
              have h1 := blen_mul_le B (10 ^ (p - (n : Int)).toNat)
              have h2 := blen_ten (p - (n : Int)).toNat
              have := SZ.out.2
              omega
            obtain ⟨q1, hq1⟩ : ∃ q1, q1 = q + 1 := ⟨_, rfl⟩
            have CQ := Lib.hid (c39 hC.out.2.1 hC.out.2.2 D0 (by omega) (by omega))
            rw [hsc.1, ← hR] at CQ
            obtain ⟨M0, m0⟩ : ∃ M0, M0 = !rdS b p n q := ⟨_, rfl⟩
            obtain ⟨M1, m1⟩ : ∃ M1, M1 = !rdS b p n q1 := ⟨_, rfl⟩
            have SP := Lib.hid (sel_pick (b := b) (n := n) (q := q) (D := D1) (R := R) (B := B) (p := p) HAB.out.1 hq hsc.2.1 hsc.2.2 RD m0 (hq1 ▸ m1))
            have CR0 := Lib.hid (CD.out n q HN.out.1 HN.out.2 q0 (by omega))
            have CR1 := Lib.hid (CD.out n q1 HN.out.1 HN.out.2 (by omega) (by omega))
            rw [← m0] at CR0
            rw [← m1] at CR1
            have CF0 := Lib.hid (fun w h => cFU q (by omega) w h)
            have CF1 := Lib.hid (fun w h => cFU q1 (by omega) w h)
            have CT0 := Lib.hid (fun s w h => cTrim s w q (by omega) h)
            have CT1 := Lib.hid (fun s w h => cTrim s w q1 (by omega) h)
            have nd0 : (Lib.nDigits q : Int) ≤ 18 := by
              have : Lib.nDigits q ≤ 18 := nd_le (by have : (10 : Nat) ^ 18 = 1000000000000000000 := by decide
                                                     omega) (by decide)
              omega
            have nd1 : (Lib.nDigits q1 : Int) ≤ 18 := by
              have : Lib.nDigits q1 ≤ 18 := nd_le (by have : (10 : Nat) ^ 18 = 1000000000000000000 := by decide
                                                      omega) (by decide)
              omega
            have wq : IntKind.u64.wrap ((q : Int) + 1) = (q1 : Int) := by rw [IntKind.wrap_u64]; omega
            have wq2 : (q : Int) + 1 = (q1 : Int) := by omega
            have qi : (q : Int) ≤ 99999999999999999 := by omega
            have TN := Lib.hid (And.intro (trim_ne q0) (trim_ne (show 0 < q1 by omega)))
            have QQ := Lib.hid (And.intro q0 (And.intro q99 hq1))
            have RDH := Lib.hid RD
            have SS := Lib.hid (And.intro s1 s2)
            clear hr h17 hsc hq hR D0 RD s1 s2 m0 m1 CD q0 q99 hq1
            go_upto_block 7 with (go_at_call 40; refine CQ.out.mono ?_; rintro e w6 ⟨hb, v1, v2, rfl, hv1, hv2⟩; have B6 := Lib.hid hb; have K6 := Lib.hid hv2; obtain ⟨b1, o1, c1, rfl, g1, g2, g3, g4⟩ := one_word hv1 QQ.out.1 (by have := QQ.out.2.1; unfold BB; omega); clear hb hv1 hv2)
            have W6 : Hid (Below w.heap.size w w6 ∧ NV w6 u9 D1 ∧ NV w6 va A ∧ NV w6 vb B) := Lib.hid ⟨hW.out.1.trans ((hC.out.1.trans (B6.out.mono hC.out.1.size)).mono hW.out.1.size), hC.out.2.2.below B6.out, (hW.out.2.1.below hC.out.1).below B6.out, (hW.out.2.2.below hC.out.1).below B6.out⟩
            clear CQ hC hW B6
            go_cut [13, 14] (fun s av wx => ∃ (z : ByteArray) (t : Int), s = .string z ∧ av = .int .i64 t ∧ Hid ((pick2 M0 M1 q (D1 - R < R ∨ (D1 - R = R ∧ (q + 1) % 2 = 0)) = none ∧ z = ⟨#[]⟩) ∨ ∃ d, pick2 M0 M1 q (D1 - R < R ∨ (D1 - R = R ∧ (q + 1) % 2 = 0)) = some d ∧ 0 < d ∧ bl z = trimD (dgs d) ∧ t = p + (Lib.nDigits d : Int) - n) ∧ Hid (Below w6.heap.size w6 wx))
            case first =>
              clear ED EP hS HAB SP
              go_wp2_with fail
              go_loopw [13, 14, 15, 85] (fun s av g i wx => ∃ (k : Nat) (z : ByteArray) (t : Int), s = .string z ∧ av = .int .i64 t ∧ i = .int .i64 k ∧ Hid (RI k M0 M1 q (D1 - R < R ∨ (D1 - R = R ∧ (q + 1) % 2 = 0)) (fun d => p + (Lib.nDigits d : Int) - n) R z t g wx ∧ Below w6.heap.size w6 wx)) (fun _ _ _ i _ => 2 - (intOf i).toNat)
              case atStart => exact ⟨0, _, _, rfl, rfl, rfl, Lib.hid ⟨.inl ⟨rfl, rfl⟩, Below.refl _ _⟩⟩
              case round =>
                obtain ⟨k, z, t, rfl, rfl, rfl, hI⟩ := hrel
                rcases hI.out.1 with ⟨rfl, rfl⟩ | ⟨rfl, hk⟩ | ⟨rfl, hk⟩
                · cases M0
                  · go_wp2_with (first
                      | (go_at_call 41; refine (CF0.out _ (HT.out.below (W6.out.1.trans (hI.out.2.mono W6.out.1.size)))).mono ?_; rintro e w7 ⟨⟨s0, rfl, hs⟩, hb⟩; have zs : (s0.size : Int) = (Lib.nDigits q : Int) := (by rw [← bl_len, hs, dgs_len]); have S0 := Lib.hid hs; have B7 := Lib.hid (hI.out.2.trans (hb.mono hI.out.2.size)); clear hb hs)
                      | (go_at_call 42; refine (CT0.out _ _ S0.out).mono ?_; rintro e w8 ⟨⟨t0, rfl, ht⟩, rfl⟩; have T0 := Lib.hid ht; clear ht)
                      | (go_at_call 28; refine (CR0.out _ _ T0.out).mono ?_; rintro e w9 ⟨⟨y, rfl, hy⟩, hb⟩; have B9 := Lib.hid (B7.out.trans (hb.mono B7.out.size)); clear hb))
                    go_roundw
                    case rel => exact ⟨1, _, _, rfl, rfl, rfl, Lib.hid ⟨.inr (.inl ⟨rfl, .inr ⟨rfl, T0.out, rfl, K6.out.below B9.out⟩⟩), B9.out⟩⟩
                    case measure => simp [intOf]
                  · go_wp2_with (first
                      | (go_at_call 41; refine (CF0.out _ (HT.out.below (W6.out.1.trans (hI.out.2.mono W6.out.1.size)))).mono ?_; rintro e w7 ⟨⟨s0, rfl, hs⟩, hb⟩; have zs : (s0.size : Int) = (Lib.nDigits q : Int) := (by rw [← bl_len, hs, dgs_len]); have S0 := Lib.hid hs; have B7 := Lib.hid (hI.out.2.trans (hb.mono hI.out.2.size)); clear hb hs)
                      | (go_at_call 42; refine (CT0.out _ _ S0.out).mono ?_; rintro e w8 ⟨⟨t0, rfl, ht⟩, rfl⟩; have T0 := Lib.hid ht; clear ht)
                      | (go_at_call 28; refine (CR0.out _ _ T0.out).mono ?_; rintro e w9 ⟨⟨y, rfl, hy⟩, hb⟩; have B9 := Lib.hid (B7.out.trans (hb.mono B7.out.size)); clear hb))
                    go_roundw
                    case rel => exact ⟨1, _, _, rfl, rfl, rfl, Lib.hid ⟨.inr (.inl ⟨rfl, .inl ⟨rfl, rfl⟩⟩), B9.out⟩⟩
                    case measure => simp [intOf]
                · rcases hk with ⟨rfl, rfl⟩ | ⟨rfl, hz, ht, hg⟩
                  · cases M1
                    · have E : Hid (pick2 true false q (D1 - R < R ∨ (D1 - R = R ∧ (q + 1) % 2 = 0)) = some q1) := Lib.hid (by rw [QQ.out.2.2]; rfl)
                      go_wp2_with (first
                      | (go_at_call 41; refine (CF1.out _ (HT.out.below (W6.out.1.trans (hI.out.2.mono W6.out.1.size)))).mono ?_; rintro e w7 ⟨⟨s0, rfl, hs⟩, hb⟩; have zs : (s0.size : Int) = (Lib.nDigits q1 : Int) := (by rw [← bl_len, hs, dgs_len]); have S0 := Lib.hid hs; have B7 := Lib.hid (hI.out.2.trans (hb.mono hI.out.2.size)); clear hb hs)
                      | (go_at_call 42; refine (CT1.out _ _ S0.out).mono ?_; rintro e w8 ⟨⟨t0, rfl, ht⟩, rfl⟩; have T0 := Lib.hid ht; clear ht)
                      | (go_at_call 28; refine (CR1.out _ _ T0.out).mono ?_; rintro e w9 ⟨⟨y, rfl, hy⟩, hb⟩; have B9 := Lib.hid (B7.out.trans (hb.mono B7.out.size)); clear hb)
                      | (go_at_call 43; refine (c61b (W6.out.2.1.below B9.out) (K6.out.below B9.out) (Nat.le_of_lt RDH.out) (by have := SS.out.2; omega)).mono ?_; rintro e w10 ⟨hb, v10, rfl, hv, -⟩; have B10 := Lib.hid (B9.out.trans (hb.mono B9.out.size)); have K10 := Lib.hid hv; clear hb hv))
                      go_roundw
                      case rel => exact ⟨2, _, _, rfl, rfl, rfl, Lib.hid ⟨.inr (.inr ⟨rfl, .inr ⟨q1, E.out, by have := QQ.out; omega, T0.out, rfl⟩⟩), B10.out⟩⟩
                      case measure => simp [intOf]
                    · go_wp2_with (first
                      | (go_at_call 41; refine (CF1.out _ (HT.out.below (W6.out.1.trans (hI.out.2.mono W6.out.1.size)))).mono ?_; rintro e w7 ⟨⟨s0, rfl, hs⟩, hb⟩; have zs : (s0.size : Int) = (Lib.nDigits q1 : Int) := (by rw [← bl_len, hs, dgs_len]); have S0 := Lib.hid hs; have B7 := Lib.hid (hI.out.2.trans (hb.mono hI.out.2.size)); clear hb hs)
                      | (go_at_call 42; refine (CT1.out _ _ S0.out).mono ?_; rintro e w8 ⟨⟨t0, rfl, ht⟩, rfl⟩; have T0 := Lib.hid ht; clear ht)
                      | (go_at_call 28; refine (CR1.out _ _ T0.out).mono ?_; rintro e w9 ⟨⟨y, rfl, hy⟩, hb⟩; have B9 := Lib.hid (B7.out.trans (hb.mono B7.out.size)); clear hb))
                      go_roundw
                      case rel => exact ⟨2, _, _, rfl, rfl, rfl, Lib.hid ⟨.inr (.inr ⟨rfl, .inl ⟨rfl, rfl⟩⟩), B9.out⟩⟩
                      case measure => simp [intOf]
                  · have HZ := Lib.hid hz
                    have HTt := Lib.hid ht
                    obtain ⟨f1, f2⟩ := full_bl (bl_full (by rw [hz]; exact TN.out.1))
                    clear hz ht
                    cases M1
                    · have HG := Lib.hid hg
                      clear hg
                      have Z10 : Hid (blen (D1 - R) ≤ 64000 ∧ blen R ≤ 64000) := Lib.hid ⟨by have := SS.out.2; have := blen_mono (show D1 - R ≤ D1 by omega); omega, by have := SS.out.2; have := blen_mono (Nat.le_of_lt RDH.out); omega⟩
                      rcases Nat.lt_trichotomy (D1 - R) R with c | c | c
                      · have E : Hid (pick2 false false q (D1 - R < R ∨ (D1 - R = R ∧ (q + 1) % 2 = 0)) = some q1) := Lib.hid (by unfold pick2; rw [if_pos rfl, if_pos ⟨rfl, .inl c⟩, QQ.out.2.2])
                        have HL := Lib.hid c
                        clear c
                        go_wp2_with (first
                        | (go_at_call 41; refine (CF1.out _ (HT.out.below (W6.out.1.trans (hI.out.2.mono W6.out.1.size)))).mono ?_; rintro e w7 ⟨⟨s0, rfl, hs⟩, hb⟩; have zs : (s0.size : Int) = (Lib.nDigits q1 : Int) := (by rw [← bl_len, hs, dgs_len]); have S0 := Lib.hid hs; have G7 := Lib.hid (HG.out.below hb); have B7 := Lib.hid (hI.out.2.trans (hb.mono hI.out.2.size)); clear hb hs)
                        | (go_at_call 42; refine (CT1.out _ _ S0.out).mono ?_; rintro e w8 ⟨⟨t0, rfl, ht⟩, rfl⟩; have T0 := Lib.hid ht; clear ht)
                        | (go_at_call 28; refine (CR1.out _ _ T0.out).mono ?_; rintro e w9 ⟨⟨y, rfl, hy⟩, hb⟩; have G9 := Lib.hid (G7.out.below hb); have B9 := Lib.hid (B7.out.trans (hb.mono B7.out.size)); clear hb)
                        | (go_at_call 43; refine (c61b (W6.out.2.1.below B9.out) (K6.out.below B9.out) (Nat.le_of_lt RDH.out) (by have := SS.out.2; omega)).mono ?_; rintro e w10 ⟨hb, v10, rfl, hv, -⟩; have G10 := Lib.hid (G9.out.below hb); have B10 := Lib.hid (B9.out.trans (hb.mono B9.out.size)); have K10 := Lib.hid hv; clear hb hv)
                        | (go_at_call 44; (with_reducible refine (c41 K10.out G10.out Z10.out.1 Z10.out.2).mono ?_); rintro e w11 ⟨⟨r, rfl, hr⟩, k11, rfl⟩; have K11 := Lib.hid (K10.out.drew k11); have G11 := Lib.hid (G10.out.drew k11); have B11 := Lib.hid (BdN B10.out k11); have u0 : r < 0 := hr.1 HL.out; clear hr))
                        go_roundw
                        case rel => exact ⟨2, _, _, rfl, rfl, rfl, Lib.hid ⟨.inr (.inr ⟨rfl, .inr ⟨q1, E.out, by have := QQ.out; omega, T0.out, rfl⟩⟩), B11.out⟩⟩
                        case measure => simp [intOf]
                      · have HL := Lib.hid c
                        rcases Nat.mod_two_eq_zero_or_one q1 with par | par
                        · have E : Hid (pick2 false false q (D1 - R < R ∨ (D1 - R = R ∧ (q + 1) % 2 = 0)) = some q1) := Lib.hid (by unfold pick2; rw [if_pos rfl, if_pos ⟨rfl, .inr ⟨c, by rw [← QQ.out.2.2]; exact par⟩⟩, QQ.out.2.2])
                          have par2 : (q1 : Int) % 2 = 0 := by omega
                          clear c par
                          go_wp2_with (first
                        | (go_at_call 41; refine (CF1.out _ (HT.out.below (W6.out.1.trans (hI.out.2.mono W6.out.1.size)))).mono ?_; rintro e w7 ⟨⟨s0, rfl, hs⟩, hb⟩; have zs : (s0.size : Int) = (Lib.nDigits q1 : Int) := (by rw [← bl_len, hs, dgs_len]); have S0 := Lib.hid hs; have G7 := Lib.hid (HG.out.below hb); have B7 := Lib.hid (hI.out.2.trans (hb.mono hI.out.2.size)); clear hb hs)
                        | (go_at_call 42; refine (CT1.out _ _ S0.out).mono ?_; rintro e w8 ⟨⟨t0, rfl, ht⟩, rfl⟩; have T0 := Lib.hid ht; clear ht)
                        | (go_at_call 28; refine (CR1.out _ _ T0.out).mono ?_; rintro e w9 ⟨⟨y, rfl, hy⟩, hb⟩; have G9 := Lib.hid (G7.out.below hb); have B9 := Lib.hid (B7.out.trans (hb.mono B7.out.size)); clear hb)
                        | (go_at_call 43; refine (c61b (W6.out.2.1.below B9.out) (K6.out.below B9.out) (Nat.le_of_lt RDH.out) (by have := SS.out.2; omega)).mono ?_; rintro e w10 ⟨hb, v10, rfl, hv, -⟩; have G10 := Lib.hid (G9.out.below hb); have B10 := Lib.hid (B9.out.trans (hb.mono B9.out.size)); have K10 := Lib.hid hv; clear hb hv)
                        | (go_at_call 44; (with_reducible refine (c41 K10.out G10.out Z10.out.1 Z10.out.2).mono ?_); rintro e w11 ⟨⟨r, rfl, hr⟩, k11, rfl⟩; have K11 := Lib.hid (K10.out.drew k11); have G11 := Lib.hid (G10.out.drew k11); have B11 := Lib.hid (BdN B10.out k11); obtain rfl : r = 0 := hr.2.1 HL.out; clear hr)
                        | (go_at_call 44; (with_reducible refine (c41 K11.out G11.out Z10.out.1 Z10.out.2).mono ?_); rintro e w12 ⟨⟨r2, rfl, hr⟩, k12, rfl⟩; have B12 := Lib.hid (BdN B11.out k12); obtain rfl : r2 = 0 := hr.2.1 HL.out; clear hr))
                          go_roundw
                          case rel => exact ⟨2, _, _, rfl, rfl, rfl, Lib.hid ⟨.inr (.inr ⟨rfl, .inr ⟨q1, E.out, by have := QQ.out; omega, T0.out, rfl⟩⟩), BdN B10.out _⟩⟩
                          case measure => simp [intOf]
                        · have E : Hid (pick2 false false q (D1 - R < R ∨ (D1 - R = R ∧ (q + 1) % 2 = 0)) = some q) := Lib.hid (by unfold pick2; rw [if_pos rfl, if_neg (fun h => by
                            have h2 := h.2
                            rw [← QQ.out.2.2] at h2
                            omega)])
                          have par2 : (q1 : Int) % 2 = 1 := by omega
                          clear c par
                          go_wp2_with (first
                        | (go_at_call 41; refine (CF1.out _ (HT.out.below (W6.out.1.trans (hI.out.2.mono W6.out.1.size)))).mono ?_; rintro e w7 ⟨⟨s0, rfl, hs⟩, hb⟩; have zs : (s0.size : Int) = (Lib.nDigits q1 : Int) := (by rw [← bl_len, hs, dgs_len]); have S0 := Lib.hid hs; have G7 := Lib.hid (HG.out.below hb); have B7 := Lib.hid (hI.out.2.trans (hb.mono hI.out.2.size)); clear hb hs)
                        | (go_at_call 42; refine (CT1.out _ _ S0.out).mono ?_; rintro e w8 ⟨⟨t0, rfl, ht⟩, rfl⟩; have T0 := Lib.hid ht; clear ht)
                        | (go_at_call 28; refine (CR1.out _ _ T0.out).mono ?_; rintro e w9 ⟨⟨y, rfl, hy⟩, hb⟩; have G9 := Lib.hid (G7.out.below hb); have B9 := Lib.hid (B7.out.trans (hb.mono B7.out.size)); clear hb)
                        | (go_at_call 43; refine (c61b (W6.out.2.1.below B9.out) (K6.out.below B9.out) (Nat.le_of_lt RDH.out) (by have := SS.out.2; omega)).mono ?_; rintro e w10 ⟨hb, v10, rfl, hv, -⟩; have G10 := Lib.hid (G9.out.below hb); have B10 := Lib.hid (B9.out.trans (hb.mono B9.out.size)); have K10 := Lib.hid hv; clear hb hv)
                        | (go_at_call 44; (with_reducible refine (c41 K10.out G10.out Z10.out.1 Z10.out.2).mono ?_); rintro e w11 ⟨⟨r, rfl, hr⟩, k11, rfl⟩; have K11 := Lib.hid (K10.out.drew k11); have G11 := Lib.hid (G10.out.drew k11); have B11 := Lib.hid (BdN B10.out k11); obtain rfl : r = 0 := hr.2.1 HL.out; clear hr)
                        | (go_at_call 44; (with_reducible refine (c41 K11.out G11.out Z10.out.1 Z10.out.2).mono ?_); rintro e w12 ⟨⟨r2, rfl, hr⟩, k12, rfl⟩; have B12 := Lib.hid (BdN B11.out k12); obtain rfl : r2 = 0 := hr.2.1 HL.out; clear hr))
                          go_roundw
                          case rel => exact ⟨2, _, _, rfl, rfl, rfl, Lib.hid ⟨.inr (.inr ⟨rfl, .inr ⟨q, E.out, QQ.out.1, HZ.out, HTt.out⟩⟩), BdN B10.out _⟩⟩
                          case measure => simp [intOf]
                      · have E : Hid (pick2 false false q (D1 - R < R ∨ (D1 - R = R ∧ (q + 1) % 2 = 0)) = some q) := Lib.hid (by unfold pick2; rw [if_pos rfl, if_neg (fun h => by have h2 := h.2; omega)])
                        have HL := Lib.hid c
                        clear c
                        go_wp2_with (first
                        | (go_at_call 41; refine (CF1.out _ (HT.out.below (W6.out.1.trans (hI.out.2.mono W6.out.1.size)))).mono ?_; rintro e w7 ⟨⟨s0, rfl, hs⟩, hb⟩; have zs : (s0.size : Int) = (Lib.nDigits q1 : Int) := (by rw [← bl_len, hs, dgs_len]); have S0 := Lib.hid hs; have G7 := Lib.hid (HG.out.below hb); have B7 := Lib.hid (hI.out.2.trans (hb.mono hI.out.2.size)); clear hb hs)
                        | (go_at_call 42; refine (CT1.out _ _ S0.out).mono ?_; rintro e w8 ⟨⟨t0, rfl, ht⟩, rfl⟩; have T0 := Lib.hid ht; clear ht)
                        | (go_at_call 28; refine (CR1.out _ _ T0.out).mono ?_; rintro e w9 ⟨⟨y, rfl, hy⟩, hb⟩; have G9 := Lib.hid (G7.out.below hb); have B9 := Lib.hid (B7.out.trans (hb.mono B7.out.size)); clear hb)
                        | (go_at_call 43; refine (c61b (W6.out.2.1.below B9.out) (K6.out.below B9.out) (Nat.le_of_lt RDH.out) (by have := SS.out.2; omega)).mono ?_; rintro e w10 ⟨hb, v10, rfl, hv, -⟩; have G10 := Lib.hid (G9.out.below hb); have B10 := Lib.hid (B9.out.trans (hb.mono B9.out.size)); have K10 := Lib.hid hv; clear hb hv)
                        | (go_at_call 44; (with_reducible refine (c41 K10.out G10.out Z10.out.1 Z10.out.2).mono ?_); rintro e w11 ⟨⟨r, rfl, hr⟩, k11, rfl⟩; have K11 := Lib.hid (K10.out.drew k11); have G11 := Lib.hid (G10.out.drew k11); have B11 := Lib.hid (BdN B10.out k11); have u0 : 0 < r := hr.2.2 HL.out; have u1 : ¬ r < 0 := (by omega); clear hr)
                        | (go_at_call 44; (with_reducible refine (c41 K11.out G11.out Z10.out.1 Z10.out.2).mono ?_); rintro e w12 ⟨⟨r2, rfl, hr⟩, k12, rfl⟩; have B12 := Lib.hid (BdN B11.out k12); have u2 : 0 < r2 := hr.2.2 HL.out; have u3 : (r2 == 0) = false := beq_eq_false_iff_ne.2 (by omega); clear hr))
                        go_roundw
                        case rel => exact ⟨2, _, _, rfl, rfl, rfl, Lib.hid ⟨.inr (.inr ⟨rfl, .inr ⟨q, E.out, QQ.out.1, HZ.out, HTt.out⟩⟩), BdN B10.out _⟩⟩
                        case measure => simp [intOf]
                    · have E : Hid (pick2 false true q (D1 - R < R ∨ (D1 - R = R ∧ (q + 1) % 2 = 0)) = some q) := Lib.hid rfl
                      clear hg
                      go_wp2_with (first
                      | (go_at_call 41; refine (CF1.out _ (HT.out.below (W6.out.1.trans (hI.out.2.mono W6.out.1.size)))).mono ?_; rintro e w7 ⟨⟨s0, rfl, hs⟩, hb⟩; have zs : (s0.size : Int) = (Lib.nDigits q1 : Int) := (by rw [← bl_len, hs, dgs_len]); have S0 := Lib.hid hs; have B7 := Lib.hid (hI.out.2.trans (hb.mono hI.out.2.size)); clear hb hs)
                      | (go_at_call 42; refine (CT1.out _ _ S0.out).mono ?_; rintro e w8 ⟨⟨t0, rfl, ht⟩, rfl⟩; have T0 := Lib.hid ht; clear ht)
                      | (go_at_call 28; refine (CR1.out _ _ T0.out).mono ?_; rintro e w9 ⟨⟨y, rfl, hy⟩, hb⟩; have B9 := Lib.hid (B7.out.trans (hb.mono B7.out.size)); clear hb))
                      go_roundw
                      case rel => exact ⟨2, _, _, rfl, rfl, rfl, Lib.hid ⟨.inr (.inr ⟨rfl, .inr ⟨q, E.out, QQ.out.1, HZ.out, HTt.out⟩⟩), B9.out⟩⟩
                      case measure => simp [intOf]
                · have HK := Lib.hid hk
                  clear hk
                  go_wp2_with fail
                  go_meet
                  exact ⟨_, _, rfl, rfl, HK, Lib.hid hI.out.2⟩
            case rest =>
              obtain ⟨z, t, rfl, rfl, hP, hB⟩ := hcut
              rcases hP.out with ⟨hn, rfl⟩ | ⟨d, hd, d0, hz, rfl⟩
              · have NONE : selS b p n = none := SP.out.trans hn
                have n17 : n ≠ 17 := fun e => by
                  subst e
                  obtain ⟨d, hd⟩ := sel_17 HB.out.1 HB.out.2 hp.out
                  rw [hd] at NONE; cases NONE
                have E : Hid (1 ≤ n + 1 ∧ n + 1 ≤ 17 ∧ srchS b p (18 - (n + 1)) (n + 1) = shS b) := Lib.hid ⟨by omega, by have := HN.out; omega, by
                  have h := hS.out
                  have := HN.out
                  rw [show 18 - n = (18 - (n + 1)) + 1 by omega, srch_none NONE] at h
                  exact h⟩
                have E2 : Hid (Below w.heap.size w wc ∧ NV wc va A ∧ NV wc vb B) := Lib.hid ⟨W6.out.1.trans (hB.out.mono W6.out.1.size), W6.out.2.2.1.below hB.out, W6.out.2.2.2.below hB.out⟩
                clear NONE n17 SP ED EP hS CF0 CF1 CT0 CT1 CR0 CR1 wq wq2 hP hn
                go_wp2_with fail
                go_roundw
                case rel => exact ⟨n + 1, by go_num, E.out.1, E.out.2.1, Lib.hid E.out.2.2, E2⟩
                case measure => have := E.out; simp [intOf] <;> omega
              · have SEL : selS b p n = some d := SP.out.trans hd
                have SH : shS b = (d, n) := by
                  have h := hS.out
                  have := HN.out
                  rw [show 18 - n = (17 - n) + 1 by omega, srch_some SEL] at h
                  exact h.symm
                have R1 : Hid (bl z = shD b) := Lib.hid (by rw [hz, ED.out, SH])
                have R2 : Hid (p + (Lib.nDigits d : Int) - n = shP b) := Lib.hid (by rw [EP.out, SH])
                obtain ⟨f1, f2⟩ := full_bl (bl_full (by rw [hz]; exact trim_ne d0))
                have E2 := Lib.hid (W6.out.1.trans (hB.out.mono W6.out.1.size))
                clear SEL SH SP ED EP hS CF0 CF1 CT0 CT1 CR0 CR1 wq wq2 hP hd hz d0
                go_wp2_with fail
                go_ret2
                exact ⟨⟨z, by rw [← R2.out] <;> rfl, R1.out⟩, E2.out⟩
end Go.Proofs.YtjkifbkehochoaaGreatDoor
