/- How two rows of digits stand, and as what they are read. Plain laws. galleyref03.run. galleyref03.exponent. -/
import Derived.Test.YtjkifbkehochoaaGreatDoorMgDjB
import Derived.Test.YtjkifbkehochoaaGreatDoorMgDhL
import Derived.Deep.DeepCutAuto
namespace Go.Proofs.YtjkifbkehochoaaGreatDoor
open Fl

def padD (l : List Nat) (m : Nat) : List Nat := l ++ List.replicate (m - l.length) 48
theorem pad_len {l : List Nat} {m : Nat} (h : l.length ≤ m) : (padD l m).length = m := by unfold padD; rw [List.length_append, List.length_replicate]; omega
theorem pad_dg {l : List Nat} (h : DG l) (m : Nat) : DG (padD l m) := by
  intro x hx
  rcases List.mem_append.1 hx with hx | hx
  · exact h x hx
  · have := List.eq_of_mem_replicate hx
    omega
theorem pad_get {l : List Nat} {m i : Nat} (h : i < m) : (padD l m)[i]? = some (l.getD i 48) := by
  unfold padD
  rcases Nat.lt_or_ge i l.length with c | c
  · rw [List.getElem?_append_left c, List.getD, List.getElem?_eq_getElem c]; rfl
  · rw [List.getElem?_append_right c, List.getElem?_replicate, if_pos (by omega), List.getD, List.getElem?_eq_none c]; rfl
theorem read_pad (l : List Nat) (m : Nat) (p : Int) : readF (padD l m) p = readF l p := read_behind _ _ _
theorem dval_cons (x : Nat) (r : List Nat) : dval (x :: r) = (x - 48) * 10 ^ r.length + dval r := by
  have h := dval_app [x] r
  rw [show [x] ++ r = x :: r from rfl] at h
  rw [h]
  congr 1
  show (0 * 10 + (x - 48)) * _ = _
  rw [Nat.zero_mul, Nat.zero_add]
theorem st_law {A B : List Nat} {a b : List Nat} {m : Nat} (ha : DG A) (hb : DG B) (la : A.length = m) (lb : B.length = m) (ga : ∀ i, i < m → A[i]? = some (a.getD i 48)) (gb : ∀ i, i < m → B[i]? = some (b.getD i 48)) :
    ∀ k i, i + k = m → (stI a b k i = -1 ∧ dval (A.drop i) < dval (B.drop i)) ∨ (stI a b k i = 1 ∧ dval (B.drop i) < dval (A.drop i)) ∨ (stI a b k i = 0 ∧ dval (A.drop i) = dval (B.drop i))
  | 0, i, h => by
    right; right
    rw [List.drop_eq_nil_of_le (by omega), List.drop_eq_nil_of_le (by omega)]
    exact ⟨rfl, rfl⟩
  | k + 1, i, h => by
    have hi : i < m := by omega
    have xa := ga i hi
    have xb := gb i hi
    have ea : A.drop i = a.getD i 48 :: A.drop (i + 1) := by
      rw [List.drop_eq_getElem_cons (by omega)]
      congr 1
      exact (List.getElem?_eq_some_iff.1 xa).2
    have eb : B.drop i = b.getD i 48 :: B.drop (i + 1) := by
      rw [List.drop_eq_getElem_cons (by omega)]
      congr 1
      exact (List.getElem?_eq_some_iff.1 xb).2
    have da := ha _ (List.mem_of_getElem? xa)
    have db := hb _ (List.mem_of_getElem? xb)
    have na : dval (A.drop (i + 1)) < 10 ^ (m - (i + 1)) := by
      have := dval_lt (ha.drop (i + 1)) (A.drop (i + 1)).length (Nat.le_refl _)
      rw [List.take_length, List.length_drop, la] at this
      exact this
    have nb : dval (B.drop (i + 1)) < 10 ^ (m - (i + 1)) := by
      have := dval_lt (hb.drop (i + 1)) (B.drop (i + 1)).length (Nat.le_refl _)
      rw [List.take_length, List.length_drop, lb] at this
      exact this
    have ih := st_law ha hb la lb ga gb k (i + 1) (by omega)
    rw [ea, eb, dval_cons, dval_cons, List.length_drop, List.length_drop, la, lb]
    generalize 10 ^ (m - (i + 1)) = T at *
    generalize dval (A.drop (i + 1)) = u at *
    generalize dval (B.drop (i + 1)) = v at *
    rw [stI]
    generalize a.getD i 48 = x at *
    generalize b.getD i 48 = y at *
    by_cases c1 : x < y
    · rw [if_pos c1]
      left
      have : (x - 48 + 1) * T ≤ (y - 48) * T := Nat.mul_le_mul_right _ (by omega)
      rw [Nat.add_mul, Nat.one_mul] at this
      exact ⟨rfl, by omega⟩
    · rw [if_neg c1]
      by_cases c2 : y < x
      · rw [if_pos c2]
        right; left
        have : (y - 48 + 1) * T ≤ (x - 48) * T := Nat.mul_le_mul_right _ (by omega)
        rw [Nat.add_mul, Nat.one_mul] at this
        exact ⟨rfl, by omega⟩
      · rw [if_neg c2]
        have : x = y := by omega
        subst this
        rcases ih with ⟨h1, h2⟩ | ⟨h1, h2⟩ | ⟨h1, h2⟩
        · left; exact ⟨h1, by omega⟩
        · right; left; exact ⟨h1, by omega⟩
        · right; right; exact ⟨h1, by omega⟩
/-- as the rows stand, so they are read -/
theorem stands_read {a b : List Nat} (ha : DG a) (hb : DG b) (p : Int) :
    (stF a b = -1 ∧ readF a p ≤ readF b p) ∨ (stF a b = 1 ∧ readF b p ≤ readF a p) ∨ (stF a b = 0 ∧ readF a p = readF b p) := by
  obtain ⟨m, hm⟩ : ∃ m, m = max a.length b.length := ⟨_, rfl⟩
  have la : (padD a m).length = m := pad_len (by omega)
  have lb : (padD b m).length = m := pad_len (by omega)
  have da := pad_dg ha m
  have db := pad_dg hb m
  have h := st_law da db la lb (fun i hi => pad_get hi) (fun i hi => pad_get hi) m 0 (by omega)
  rw [List.drop_zero, List.drop_zero] at h
  unfold stF
  rw [← hm, ← read_pad a m, ← read_pad b m]
  rcases h with ⟨h1, h2⟩ | ⟨h1, h2⟩ | ⟨h1, h2⟩
  · left; exact ⟨h1, read_mono da db (by omega) (by omega) p⟩
  · right; left; exact ⟨h1, read_mono db da (by omega) (by omega) p⟩
  · right; right; exact ⟨h1, Nat.le_antisymm (read_mono da db (by omega) (by omega) p) (read_mono db da (by omega) (by omega) p)⟩
/-- a row of digits with a figure's end behind it: what is read -/
theorem runD_app {a b : List Nat} (ha : DG a) : runD (a ++ b) = a.length + runD b := by
  induction a with
  | nil => rw [List.nil_append, List.length_nil, Nat.zero_add]
  | cons x a ih =>
    rw [List.cons_append, runD, if_pos (ha x List.mem_cons_self), ih (fun y hy => ha y (List.mem_cons_of_mem _ hy)), List.length_cons]
    omega
theorem parse_plain {a : List Nat} (ha : DG a) (h0 : a ≠ []) : pW (a ++ [101, 49]) = readF a (a.length + 1) ∧ pN (a ++ [101, 49]) = a.length + 2 ∧ pErr (a ++ [101, 49]) = 0 := by
  obtain ⟨x, r, rfl⟩ : ∃ x r, a = x :: r := by
    cases a with
    | nil => exact absurd rfl h0
    | cons x r => exact ⟨x, r, rfl⟩
  have hx := ha x List.mem_cons_self
  have hg : ((x :: r) ++ [101, 49]).getD 0 0 = x := rfl
  have hA : fAt ((x :: r) ++ [101, 49]) = 0 := by unfold fAt; rw [hg, if_neg (by omega)]
  have hW : fWh ((x :: r) ++ [101, 49]) = (x :: r).length := by
    unfold fWh; rw [hA, List.drop_zero, runD_app ha]; rfl
  have hd : ((x :: r) ++ [101, 49]).getD (x :: r).length 0 = 101 := by
    rw [List.getD, List.getElem?_append_right (Nat.le_refl _), Nat.sub_self]; rfl
  have hF : fFr ((x :: r) ++ [101, 49]) = 0 := fFr_zero (by rw [hA, hW, Nat.zero_add, hd]; decide)
  have hD : fDg ((x :: r) ++ [101, 49]) = x :: r := by
    unfold fDg
    rw [hA, hW, hF, List.drop_zero, List.take_zero, List.append_nil, List.take_left]
  have hT : fTo ((x :: r) ++ [101, 49]) = (x :: r).length := by
    unfold fTo
    rw [hA, hW, Nat.zero_add, hd, if_neg (fun e => by have := e.1; omega)]
  have hR : ((x :: r) ++ [101, 49]).drop (x :: r).length = [101, 49] := List.drop_left
  have e1 : xI FAR [101, 49] = 1 := by decide
  have e2 : xSz [101, 49] = 2 := by decide
  have hne : fDg ((x :: r) ++ [101, 49]) ≠ [] := by rw [hD]; exact List.cons_ne_nil _ _
  refine ⟨?_, ?_, ?_⟩
  · unfold pW
    rw [if_neg hne, hD, hW, hT, hR, e1, hg, if_neg (by omega), Nat.add_zero]
  · unfold pN
    rw [if_neg hne, hT, hR, e2]
  · unfold pErr
    rw [if_neg hne]
theorem parse_minus {a : List Nat} (ha : DG a) (h0 : a ≠ []) : pW (45 :: (a ++ [101, 49])) = readF a (a.length + 1) + 9223372036854775808 ∧ pN (45 :: (a ++ [101, 49])) = a.length + 3 ∧ pErr (45 :: (a ++ [101, 49])) = 0 := by
  have hpos := List.length_pos_iff.2 h0
  have hg : (45 :: (a ++ [101, 49])).getD 0 0 = 45 := rfl
  have hA : fAt (45 :: (a ++ [101, 49])) = 1 := by unfold fAt; rw [hg]; rfl
  have hdr : ∀ k, (45 :: (a ++ [101, 49])).drop (k + 1) = (a ++ [101, 49]).drop k := fun k => rfl
  have hW : fWh (45 :: (a ++ [101, 49])) = a.length := by
    unfold fWh; rw [hA, hdr, List.drop_zero, runD_app ha]; rfl
  have hd : (45 :: (a ++ [101, 49])).getD (1 + a.length) 0 = 101 := by
    rw [Nat.add_comm, List.getD, List.getElem?_cons_succ, List.getElem?_append_right (Nat.le_refl _), Nat.sub_self]; rfl
  have hF : fFr (45 :: (a ++ [101, 49])) = 0 := fFr_zero (by rw [hA, hW, hd]; decide)
  have hD : fDg (45 :: (a ++ [101, 49])) = a := by
    unfold fDg
    rw [hA, hW, hF, hdr, List.drop_zero, List.take_zero, List.append_nil, List.take_left]
  have hT : fTo (45 :: (a ++ [101, 49])) = a.length + 1 := by
    unfold fTo
    rw [hA, hW, hd, if_neg (fun e => by have := e.1; omega), Nat.add_comm]
  have hR : (45 :: (a ++ [101, 49])).drop (a.length + 1) = [101, 49] := by rw [hdr]; exact List.drop_left
  have e1 : xI FAR [101, 49] = 1 := by decide
  have e2 : xSz [101, 49] = 2 := by decide
  have hne : fDg (45 :: (a ++ [101, 49])) ≠ [] := by rw [hD]; exact h0
  refine ⟨?_, ?_, ?_⟩
  · unfold pW
    rw [if_neg hne, hD, hW, hT, hR, e1, hg, if_pos rfl]
  · unfold pN
    rw [if_neg hne, hT, hR, e2]
  · unfold pErr
    rw [if_neg hne]
end Go.Proofs.YtjkifbkehochoaaGreatDoor

namespace Go.Proofs.YtjkifbkehochoaaGreatDoor
open Go.RowKit Fl

set_option maxRecDepth 100000 in
set_option maxHeartbeats 1000000 in
/-- galleyref03.run -/
theorem rRun (s : ByteArray) (a : Nat) (w : World) (hs : s.size ≤ 1000000000) (ha : a ≤ s.size) :
    Calls Tryz.prog 65 #[.string s, .int .i64 a] w fun e w' => e = .returned (.int .i64 (runD ((bl s).drop a) : Nat)) ∧ w = w' := by
  have HS := Lib.hid (And.intro hs ha)
  have s1 : (s.size : Int) ≤ 1000000000 := by omega
  obtain ⟨R, hR⟩ : ∃ R, R = runD ((bl s).drop a) := ⟨_, rfl⟩
  rw [← hR]
  have HR := Lib.hid hR
  have LB := Lib.hid (bl_len s)
  have a1 : (a : Int) ≤ 1000000000 := by omega
  clear hs ha hR
  go_enter Tryz.func65, Tryz.ntmps65
  go_wp2_with fail
  go_loopw [5] (fun i wx => ∃ k : Nat, i = .int .i64 k ∧ Hid (a + k ≤ s.size ∧ R = k + runD ((bl s).drop (a + k))) ∧ wx = w) (fun i _ => s.size - (intOf i).toNat)
  case atStart => exact ⟨0, rfl, Lib.hid ⟨HS.out.2, by rw [HR.out, Nat.add_zero, Nat.zero_add]⟩, rfl⟩
  case round =>
    obtain ⟨k, rfl, hI, rfl⟩ := hrel
    obtain ⟨m, hm⟩ : ∃ m, m = a + k := ⟨_, rfl⟩
    have am : (a : Int) + (k : Int) = (m : Int) := by omega
    have k1 : (k : Int) ≤ 1000000000 := by have := hI.out; have := HS.out; omega
    rw [← hm] at hI
    have HM := Lib.hid hm
    clear hm
    by_cases hlt : m < s.size
    · have hki : (m : Int) < (s.size : Int) := by omega
      have hx := bl_get s m hlt
      have hst := runD_step hx
      by_cases hd : 48 ≤ (s[m]).toNat ∧ (s[m]).toNat ≤ 57
      · rw [if_pos hd] at hst
        have d1 : (48 : Int) ≤ ((s[m]).toNat : Int) := by omega
        have d2 : ((s[m]).toNat : Int) ≤ 57 := by omega
        have E : Hid (a + (k + 1) ≤ s.size ∧ R = k + 1 + runD ((bl s).drop (a + (k + 1)))) := Lib.hid ⟨by have := HM.out; omega, by rw [show a + (k + 1) = m + 1 by have := HM.out; omega]; have := hI.out.2; omega⟩
        clear hx hst hd
        go_wp2_with fail
        go_roundw
        case rel => exact ⟨k + 1, by go_num, E, trivial⟩
        case measure => have := HM.out; simp [intOf]; omega
      · rw [if_neg hd] at hst
        have E : Hid ((k : Int) = (R : Int)) := Lib.hid (by have := hI.out; omega)
        clear hx hst
        by_cases d1 : (48 : Int) ≤ ((s[m]).toNat : Int)
        · have d2 : ¬ ((s[m]).toNat : Int) ≤ 57 := by omega
          clear hd
          go_wp2_with fail
          go_ret
          exact ⟨by rw [← E.out]; rfl, rfl⟩
        · clear hd
          go_wp2_with fail
          go_ret
          exact ⟨by rw [← E.out]; rfl, rfl⟩
    · have hki : ¬ (m : Int) < (s.size : Int) := by omega
      have E : Hid ((k : Int) = (R : Int)) := Lib.hid (by
        have h1 := hI.out
        have : (bl s).drop m = [] := List.drop_eq_nil_of_le (by rw [LB.out]; omega)
        rw [this] at h1
        have : runD [] = 0 := rfl
        omega)
      clear hlt
      go_wp2_with fail
      go_ret
      exact ⟨by rw [← E.out]; rfl, rfl⟩
end Go.Proofs.YtjkifbkehochoaaGreatDoor

namespace Go.Proofs.YtjkifbkehochoaaGreatDoor
open Go.RowKit Fl

theorem xI_zero {cap : Nat} {r : List Nat} (h : xN r = 0) : xI cap r = 0 := by
  have : xV r = 0 := by unfold xV; rw [h, List.take_zero]; rfl
  unfold xI
  rw [this, Nat.min_zero]
  split <;> rfl
theorem getD_none {l : List Nat} {k : Nat} (h : l.length ≤ k) : l.getD k 0 = 0 := by rw [List.getD, List.getElem?_eq_none h]; rfl
theorem cap_int {cap : Nat} (hc : 0 < cap) (v d : Nat) : min (cap : Int) (10 * ((min cap v : Nat) : Int) + (d : Int)) = ((min cap (v * 10 + d) : Nat) : Int) := by
  have := cap_step (x := d) (v := v) hc
  omega
/-- what a byte of a text is -/
theorem at_facts (s : ByteArray) (k : Nat) (h : k < s.size) : (bl s).getD k 0 = (s[k]).toNat := bl_getD s k h
set_option maxRecDepth 100000 in
set_option maxHeartbeats 2000000 in
theorem rExp (s : ByteArray) (w : World) (hs : s.size ≤ 1000000000) :
    Calls Tryz.prog 66 #[.string s] w fun e w' => e = .returned (.tuple #[.int .i64 (xI FAR4 (bl s)), .int .i64 (xSz (bl s) : Nat)]) ∧ w = w' := by
  have s1 : (s.size : Int) ≤ 1000000000 := by omega
  have LB := Lib.hid (bl_len s)
  obtain ⟨I, hI⟩ : ∃ I, I = xI FAR4 (bl s) := ⟨_, rfl⟩
  obtain ⟨Z, hZ⟩ : ∃ Z, Z = xSz (bl s) := ⟨_, rfl⟩
  rw [← hI, ← hZ]
  have HI := Lib.hid hI
  have HZ := Lib.hid hZ
  have zero : Hid (xN (bl s) = 0 → I = 0 ∧ Z = 0) := Lib.hid (fun h => ⟨by rw [HI.out, xI_zero h], by rw [HZ.out]; unfold xSz; rw [if_pos h]⟩)
  obtain ⟨E, hE⟩ : ∃ E, E = decide ((bl s).getD 0 0 = 101 ∨ (bl s).getD 0 0 = 69) := ⟨_, rfl⟩
  have HE := Lib.hid hE
  obtain ⟨A, hA⟩ : ∃ A, A = xAt (bl s) := ⟨_, rfl⟩
  have HA := Lib.hid hA
  obtain ⟨B, hB⟩ : ∃ B, B = decide ((bl s).getD 1 0 = 45) := ⟨_, rfl⟩
  have HB := Lib.hid hB
  obtain ⟨C, hC⟩ : ∃ C, C = decide ((bl s).getD 1 0 = 43 ∨ (bl s).getD 1 0 = 45) := ⟨_, rfl⟩
  have HC := Lib.hid hC
  have AC : Hid (A = if C = true then 2 else 1) := Lib.hid (by rw [HA.out, HC.out]; unfold xAt; simp only [decide_eq_true_eq])
  have HS := Lib.hid hs
  clear hI hZ hE hA hB hC hs
  go_enter Tryz.func66, Tryz.ntmps66
  go_upto_region 1 with fail
  go_cut [21] (fun u wx => u = .bool (!E) ∧ wx = w)
  case first =>
    by_cases h0 : 0 < s.size
    · have x0 := bl_getD s 0 h0
      have c6 : ((s.size : Int) == 0) = false := beq_eq_false_iff_ne.2 (by omega)
      by_cases c1 : (s[0]).toNat = 101
      · have EE : Hid (E = true) := Lib.hid (by rw [HE.out, x0]; exact decide_eq_true (.inl c1))
        have c1i : ((s[0]).toNat : Int) = 101 := by omega
        clear c1 x0
        go_wp2_with fail
        go_meet
        exact ⟨by rw [EE.out] <;> rfl, rfl⟩
      · have c1i : (((s[0]).toNat : Int) != 101) = true := bne_iff_ne.2 (by omega)
        by_cases c2 : (s[0]).toNat = 69
        · have EE : Hid (E = true) := Lib.hid (by rw [HE.out, x0]; exact decide_eq_true (.inr c2))
          have c2i : ((s[0]).toNat : Int) = 69 := by omega
          clear c1 c1i x0 c2
          go_wp2_with fail
          go_meet
          exact ⟨by rw [EE.out] <;> rfl, rfl⟩
        · have EE : Hid (E = false) := Lib.hid (by rw [HE.out, x0]; exact decide_eq_false (fun e => e.elim c1 c2))
          have c2i : (((s[0]).toNat : Int) != 69) = true := bne_iff_ne.2 (by omega)
          clear c1 c2 x0
          go_wp2_with fail
          go_meet
          exact ⟨by rw [EE.out] <;> rfl, rfl⟩
    · have c6 : ((s.size : Int) == 0) = true := beq_iff_eq.2 (by omega)
      have EE : Hid (E = false) := Lib.hid (by rw [HE.out, getD_none (by rw [LB.out]; omega)]; rfl)
      clear h0
      go_wp2_with fail
      go_meet
      exact ⟨by rw [EE.out] <;> rfl, rfl⟩
  case rest =>
    obtain ⟨rfl, rfl⟩ := hcut
    cases E
    · have EZ := Lib.hid (zero.out (by unfold xN; rw [if_neg (of_decide_eq_false HE.out.symm)]))
      clear zero
      go_wp2_with fail
      go_ret2
      exact ⟨by rw [EZ.out.1, EZ.out.2]; rfl, rfl⟩
    · have c1 := of_decide_eq_true HE.out.symm
      have XN : Hid (xN (bl s) = runD ((bl s).drop (xAt (bl s)))) := Lib.hid (by unfold xN; rw [if_pos c1])
      rw [← HA.out] at XN
      have A1 : 1 ≤ A ∧ A ≤ 2 ∧ A ≤ s.size := by
        have h0 : 0 < s.size := by
          rcases Nat.lt_or_ge 0 s.size with h | h
          · exact h
          · rw [getD_none (by rw [LB.out]; omega)] at c1; omega
        rw [HA.out]; unfold xAt
        by_cases h1 : 1 < s.size
        · split <;> omega
        · rw [getD_none (by rw [LB.out]; omega), if_neg (by decide)]; omega
      have HA1 := Lib.hid A1
      obtain ⟨a1, a2, a3⟩ := A1
      have a4 : (A : Int) ≤ 2 := by omega
      have C65 := Lib.hid (fun w => rRun s A w HS.out a3)
      rw [← XN.out] at C65
      have nle : xN (bl s) + A ≤ s.size := by
        rw [XN.out]
        have := runD_le ((bl s).drop A)
        rw [List.length_drop, LB.out] at this
        omega
      have HX : Hid (xV (bl s) = dval (((bl s).drop A).take (xN (bl s)))) := Lib.hid (by unfold xV; rw [← HA.out])
      have II : Hid (I = if B = true then -((min FAR4 (xV (bl s)) : Nat) : Int) else ((min FAR4 (xV (bl s)) : Nat) : Int)) := Lib.hid (by
        rw [HI.out, HB.out]; unfold xI; simp only [decide_eq_true_eq])
      have ZZ : Hid (xN (bl s) ≠ 0 → Z = A + xN (bl s)) := Lib.hid (fun h => by rw [HZ.out]; unfold xSz; rw [if_neg h, HA.out])
      obtain ⟨n, hn⟩ : ∃ n, n = xN (bl s) := ⟨_, rfl⟩
      rw [← hn] at C65 nle HX ZZ zero
      have XN2 : Hid (n = runD ((bl s).drop A)) := Lib.hid (by rw [hn]; exact XN.out)
      obtain ⟨v, hv⟩ : ∃ v, v = xV (bl s) := ⟨_, rfl⟩
      rw [← hv] at HX II
      have nle2 : (n : Int) + (A : Int) ≤ (s.size : Int) := by omega
      have HNL := Lib.hid nle
      clear hn hv XN nle HI HZ c1 HE
      go_upto_region 4 with fail
      go_cut [5] (fun u wx => u = .bool B ∧ wx = wc)
      case first =>
        by_cases h1 : 1 < s.size
        · have x1 := bl_getD s 1 h1
          have h1i : (1 : Int) < (s.size : Int) := by omega
          by_cases d1 : (s[1]).toNat = 45
          · have EE : Hid (B = true) := Lib.hid (by rw [HB.out, x1]; exact decide_eq_true d1)
            have d1i : ((s[1]).toNat : Int) = 45 := by omega
            clear d1 x1
            go_wp2_with fail
            go_meet
            exact ⟨by rw [EE.out] <;> rfl, rfl⟩
          · have EE : Hid (B = false) := Lib.hid (by rw [HB.out, x1]; exact decide_eq_false d1)
            have d1i : (((s[1]).toNat : Int) == 45) = false := beq_eq_false_iff_ne.2 (by omega)
            clear d1 x1
            go_wp2_with fail
            go_meet
            exact ⟨by rw [EE.out] <;> rfl, rfl⟩
        · have h1i : ¬ (1 : Int) < (s.size : Int) := by omega
          have EE : Hid (B = false) := Lib.hid (by rw [HB.out, getD_none (by rw [LB.out]; omega)]; rfl)
          clear h1
          go_wp2_with fail
          go_meet
          exact ⟨by rw [EE.out] <;> rfl, rfl⟩
      case rest =>
        obtain ⟨rfl, rfl⟩ := hcut
        go_upto_region 5 with fail
        go_cut [40] (fun u wx => u = .bool C ∧ wx = wc)
        case first =>
          cases B
          · have b0 := of_decide_eq_false HB.out.symm
            by_cases h1 : 1 < s.size
            · have x1 := bl_getD s 1 h1
              have h1i : (1 : Int) < (s.size : Int) := by omega
              by_cases d1 : (s[1]).toNat = 43
              · have EE : Hid (C = true) := Lib.hid (by rw [HC.out, x1]; exact decide_eq_true (.inl d1))
                have d1i : ((s[1]).toNat : Int) = 43 := by omega
                clear d1 x1 b0
                go_wp2_with fail
                go_meet
                exact ⟨by rw [EE.out] <;> rfl, rfl⟩
              · have EE : Hid (C = false) := Lib.hid (by rw [HC.out]; exact decide_eq_false (fun e => e.elim (fun e => d1 (x1.symm.trans e)) b0))
                have d1i : (((s[1]).toNat : Int) == 43) = false := beq_eq_false_iff_ne.2 (by omega)
                clear d1 x1 b0
                go_wp2_with fail
                go_meet
                exact ⟨by rw [EE.out] <;> rfl, rfl⟩
            · have h1i : ¬ (1 : Int) < (s.size : Int) := by omega
              have EE : Hid (C = false) := Lib.hid (by rw [HC.out, getD_none (by rw [LB.out]; omega)]; rfl)
              clear h1 b0
              go_wp2_with fail
              go_meet
              exact ⟨by rw [EE.out] <;> rfl, rfl⟩
          · have EE : Hid (C = true) := Lib.hid (by rw [HC.out]; exact decide_eq_true (.inr (of_decide_eq_true HB.out.symm)))
            go_wp2_with fail
            go_meet
            exact ⟨by rw [EE.out] <;> rfl, rfl⟩
        case rest =>
          obtain ⟨rfl, rfl⟩ := hcut
          go_upto_if 40 with fail
          go_cut [4] (fun a wx => a = .int .i64 (A : Int) ∧ wx = wc)
          case first =>
            cases C
            · have EE : Hid (A = 1) := Lib.hid (by rw [AC.out]; rfl)
              go_wp2_with fail
              go_meet
              exact ⟨by rw [EE.out] <;> rfl, rfl⟩
            · have EE : Hid (A = 2) := Lib.hid (by rw [AC.out]; rfl)
              go_wp2_with fail
              go_meet
              exact ⟨by rw [EE.out] <;> rfl, rfl⟩
          case rest =>
            obtain ⟨rfl, rfl⟩ := hcut
            by_cases hz : n = 0
            · have EZ := Lib.hid (zero.out hz)
              subst hz
              go_wp2_with (go_at_call 65; refine (C65.out _).mono ?_; rintro e w' ⟨rfl, rfl⟩)
              go_ret2
              exact ⟨by rw [EZ.out.1, EZ.out.2]; rfl, rfl⟩
            · have hzi : ¬ (n : Int) = 0 := by omega
              have ZE := Lib.hid (ZZ.out hz)
              clear ZZ zero hz
              go_wp2_with (go_at_call 65; refine (C65.out _).mono ?_; rintro e w' ⟨rfl, rfl⟩)
              go_loopw [7, 8] (fun e i wx => ∃ j : Nat, i = .int .i64 j ∧ Hid (A ≤ j ∧ j ≤ A + n) ∧ e = .int .i64 ((min FAR4 (dval (((bl s).drop A).take (j - A))) : Nat) : Int) ∧ wx = wc) (fun _ i _ => A + n - (intOf i).toNat)
              case atStart => exact ⟨A, rfl, Lib.hid ⟨Nat.le_refl _, Nat.le_add_right _ _⟩, by rw [Nat.sub_self, List.take_zero]; rfl, rfl⟩
              case round =>
                obtain ⟨j, rfl, hJ, rfl, rfl⟩ := hrel
                by_cases hlt : j < A + n
                · have hji : (j : Int) < (A : Int) + (n : Int) := by omega
                  have hjs : j < s.size := by have := HNL.out; omega
                  have hjs2 : (j : Int) < (s.size : Int) := by omega
                  have hx := bl_get s j hjs
                  have hx2 : ((bl s).drop A)[j - A]? = some (s[j]).toNat := by rw [List.getElem?_drop, show A + (j - A) = j by have := hJ.out.1; omega]; exact hx
                  have hx3 : (((bl s).drop A).take (runD ((bl s).drop A)))[j - A]? = some (s[j]).toNat := by
                    rw [← XN2.out, List.getElem?_take, if_pos (by have := hJ.out.1; omega)]; exact hx2
                  have hdg := runD_dg ((bl s).drop A) _ (List.mem_of_getElem? hx3)
                  have E := dval_take hx2
                  obtain ⟨x, hxe⟩ : ∃ x, x = (s[j]).toNat := ⟨_, rfl⟩
                  rw [← hxe] at hdg E
                  obtain ⟨d, hde⟩ : ∃ d, d = x - 48 := ⟨_, rfl⟩
                  rw [← hde] at E
                  have d1 : (((s[j]).toNat : Nat) : Int) - 48 = (d : Int) := by omega
                  have d2 : (d : Int) ≤ 9 := by omega
                  have d3 : (48 : Int) ≤ (((s[j]).toNat : Nat) : Int) := by omega
                  have d4 : IntKind.u8.wrap (d : Int) = (d : Int) := by
                    have e : IntKind.u8.wrap (d : Int) = (d : Int) % 256 := rfl
                    rw [e]; omega
                  obtain ⟨u, hu⟩ : ∃ u, u = dval (((bl s).drop A).take (j - A)) := ⟨_, rfl⟩
                  rw [← hu] at E ⊢
                  have mn := cap_int (cap := FAR4) (by decide) u d
                  have mm : min FAR4 u ≤ 4398046511104 := Nat.min_le_left _ _
                  have E2 : Hid (dval (((bl s).drop A).take (j + 1 - A)) = u * 10 + d) := Lib.hid (by rw [show j + 1 - A = j - A + 1 by have := hJ.out.1; omega]; exact E)
                  generalize hm1 : min FAR4 u = m1 at *
                  generalize hm2 : min FAR4 (u * 10 + d) = m2 at *
                  have HM2 := Lib.hid hm2
                  have mm1 : (m1 : Int) ≤ 4398046511104 := by omega
                  have mn2 : min (4398046511104 : Int) (10 * (m1 : Int) + (d : Int)) = (m2 : Int) := mn
                  have HLT := Lib.hid hlt
                  clear hx hx2 hx3 hdg E hxe hde hu mn mm hm1 hm2 hlt
                  go_wp2_with fail
                  go_roundw
                  case rel => exact ⟨j + 1, by go_num, Lib.hid ⟨by have := hJ.out.1; omega, HLT.out⟩, by rw [E2.out, HM2.out], trivial⟩
                  case measure => have := HLT.out; simp [intOf]; omega
                · have hji : ¬ (j : Int) < (A : Int) + (n : Int) := by omega
                  have hjn : j - A = n := by have := hJ.out; omega
                  have VV : dval (((bl s).drop A).take (j - A)) = v := by rw [hjn, HX.out]
                  rw [VV]
                  have mm : min FAR4 v ≤ 4398046511104 := Nat.min_le_left _ _
                  obtain ⟨m, hm⟩ : ∃ m, m = min FAR4 v := ⟨_, rfl⟩
                  rw [← hm] at II mm ⊢
                  have m1 : (m : Int) ≤ 4398046511104 := by omega
                  clear hlt hjn VV hm mm
                  cases B
                  · have IE := II.out
                    simp only [Bool.false_eq_true, if_false] at IE
                    replace IE := Lib.hid IE
                    clear II
                    go_wp2_with fail
                    go_ret2
                    exact ⟨by rw [IE.out, ZE.out]; push_cast; rfl, rfl⟩
                  · have IE := II.out
                    simp only [if_true] at IE
                    replace IE := Lib.hid IE
                    clear II
                    go_wp2_with fail
                    go_ret2
                    exact ⟨by rw [IE.out, ZE.out]; push_cast; rfl, rfl⟩
end Go.Proofs.YtjkifbkehochoaaGreatDoor
