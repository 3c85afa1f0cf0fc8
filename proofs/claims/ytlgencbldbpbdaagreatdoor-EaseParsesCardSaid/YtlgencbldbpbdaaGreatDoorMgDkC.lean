/- galleylaw03.stands. galleyref03.Parse. digits.Parse. The walk of DigitsOrder, awake left open. -/
import Derived.Test.YtlgencbldbpbdaaGreatDoorMgDkB
import Derived.Test.YtlgencbldbpbdaaGreatDoorMgDiB
import Derived.Test.YtlgencbldbpbdaaGreatDoorMgLen
import Derived.OwnWalk
import Derived.Test.YtlgencbldbpbdaaGreatDoorMgDhD
namespace Go.Proofs.YtlgencbldbpbdaaGreatDoor
open Go.RowKit Fl
end Go.Proofs.YtlgencbldbpbdaaGreatDoor
namespace Go.Proofs.YtlgencbldbpbdaaGreatDoor
open Go.RowKit Fl
theorem or63 (x : Nat) (h : x < 9223372036854775808) : bits .or .u64 (x : Int) 9223372036854775808 = ((x + 9223372036854775808 : Nat) : Int) := by
 rw [show (9223372036854775808 : Int) = ((9223372036854775808 : Nat) : Int) from rfl, u64_or_nat _ _ (by omega) (by decide)]
 congr 1
 have := Nat.two_pow_add_eq_or_of_lt (show x < 2 ^ 63 from h) 1
 rw [Nat.mul_one] at this
 rw [Nat.or_comm, Nat.add_comm]
 exact this.symm
theorem pN_pos {l : List Nat} (h : fDg l ≠ []) : 0 < fTo l + xSz (l.drop (fTo l)) := by
 have h1 : 0 < (fDg l).length := List.length_pos_iff.2 h
 rw [fDg_len] at h1
 have : 0 < fTo l := by
  unfold fTo
  split
  ·omega
  ·rename_i h2
   by_cases h3 : l.getD (fAt l + fWh l) 0 = 46
   ·exact absurd ⟨h3, by omega⟩ h2
   ·rw [fFr_zero h3] at h1; omega
 omega
set_option maxRecDepth 100000 in
set_option maxHeartbeats 2000000 in
theorem rParse (s : ByteArray) (w : World) (hs : s.size ≤ 1000000000) :
  Calls Tryz.prog 156 #[.string s] w fun e w' => e = .returned (.tuple #[.float .f64 (pW (bl s)), .int .i64 (pN (bl s) : Nat), .int .i64 (pErr (bl s) : Nat)]) ∧ Below w.heap.size w w' := by
 have C32 := Lib.hid (rFigure s w hs)
 obtain ⟨X, hX⟩ : ∃ X, X = pW (bl s) := ⟨_, rfl⟩
 obtain ⟨N, hN⟩ : ∃ N, N = pN (bl s) := ⟨_, rfl⟩
 obtain ⟨Q, hQ⟩ : ∃ Q, Q = pErr (bl s) := ⟨_, rfl⟩
 rw [← hX, ← hN, ← hQ]
 have HL := Lib.hid (bl_len s)
 obtain ⟨l, hl⟩ : ∃ l, l = bl s := ⟨_, rfl⟩
 rw [← hl] at HL C32 hX hN hQ
 have DD := fDg_dg l
 have DL := fDg_le l
 have WL := fWh_le l
 rw [HL.out] at DL WL
 by_cases h0 : fDg l = []
 ·have EX : Hid (X = 0 ∧ N = 0 ∧ Q = 31) := Lib.hid ⟨by rw [hX]; unfold pW; rw [if_pos h0], by rw [hN]; unfold pN; rw [if_pos h0], by rw [hQ]; unfold pErr; rw [if_pos h0]⟩
  have C : Hid (Calls Tryz.prog 220 #[.string s] w fun e w' => e = .returned (.tuple #[.bool false, .string ⟨#[]⟩, .int .i64 0, .int .i64 0]) ∧ w = w') := Lib.hid (C32.out.mono fun e w' ⟨h, hw⟩ => ⟨h.elim (fun h => h.2) (fun h => absurd h0 h.1), hw⟩)
  clear C32 hX hN hQ hl hs DD DL WL h0
  go_enter Tryz.func156, Tryz.ntmps156
  go_wp2_with (go_at_call 220; refine C.out.mono ?_; rintro e w' ⟨rfl, rfl⟩)
  go_ret3
  exact ⟨by rw [EX.out.1, EX.out.2.1, EX.out.2.2]; rfl, Below.refl _ _⟩
 ·obtain ⟨B, hB⟩ : ∃ B, B = decide (l.getD 0 0 = 45) := ⟨_, rfl⟩
  obtain ⟨p, hp⟩ : ∃ p, p = (fWh l : Int) + xI FAR4 (l.drop (fTo l)) := ⟨_, rfl⟩
  obtain ⟨d, hd⟩ : ∃ d, d = fDg l := ⟨_, rfl⟩
  obtain ⟨Y, hY⟩ : ∃ Y, Y = readF d p := ⟨_, rfl⟩
  have Yle : Y ≤ INF := by rw [hY]; exact readF_le _ _
  have hNN : N = fTo l + xSz (l.drop (fTo l)) := by rw [hN]; unfold pN; rw [if_neg h0]
  have hXX : X = Y + (if B = true then 9223372036854775808 else 0) := by
   rw [hX, hY, hp, hd, hB]; unfold pW; rw [if_neg h0, far_xI (by omega) (by omega)]
   simp only [decide_eq_true_eq]
  have NP : 0 < N := by rw [hNN]; exact pN_pos h0
  have EX : Hid (Q = 0) := Lib.hid (by rw [hQ]; unfold pErr; rw [if_neg h0])
  have C : Hid (Calls Tryz.prog 220 #[.string s] w fun e w' => (∃ z : ByteArray, bl z = d ∧ e = .returned (.tuple #[.bool B, .string z, .int .i64 p, .int .i64 (N : Int)])) ∧ w = w') := Lib.hid (C32.out.mono fun e w' ⟨h, hw⟩ => ⟨h.elim (fun h => absurd h.1 h0) (fun ⟨_, z, h1, h2⟩ => ⟨z, by rw [hd]; exact h1, by rw [h2, hB, hp, hNN]⟩), hw⟩)
  have CR : Hid (∀ (z : ByteArray) (w : World), bl z = d → Calls Tryz.prog 221 #[.string z, .int .i64 p] w fun e w' => e = .returned (.int .u64 (Y : Nat)) ∧ Below w.heap.size w w') := Lib.hid (fun z w h => by
   have hz : z.size ≤ 1000000000 := by rw [← bl_len, h, hd]; omega
   have h4 : -4398046511104 ≤ xI FAR4 (l.drop (fTo l)) ∧ xI FAR4 (l.drop (fTo l)) ≤ 4398046511104 := xI_le (cap := FAR4) (l.drop (fTo l))
   have := R.cRead z p w (by rw [h, hd]; exact DD) hz (by rw [hp]; omega)
   rw [h, ← hY] at this
   exact this)
  have n1 : ¬ (N : Int) = 0 := by omega
  have hu : U Y := by unfold U; unfold INF at Yle; omega
  clear C32 hX hN hQ hl hs DD DL WL h0 hd hp hY hNN NP hB
  have o1 := or63 Y (by unfold INF at Yle; omega)
  cases B
  ·rw [if_neg (by decide), Nat.add_zero] at hXX
   have HX := Lib.hid hXX
   clear hXX Yle
   go_enter Tryz.func156, Tryz.ntmps156
   go_wp2_with (first
    | (go_at_call 220; refine C.out.mono ?_; rintro e w' ⟨⟨z, hz, rfl⟩, rfl⟩; have Z := Lib.hid hz; clear hz)
    | (go_at_call 221; refine (CR.out _ _ Z.out).mono ?_; rintro e w1 ⟨rfl, hb⟩; have I := Lib.hid hb; clear hb))
   go_ret3
   exact ⟨by rw [EX.out, HX.out]; rfl, I.out⟩
  ·rw [if_pos rfl] at hXX
   have hu2 : U X := by rw [hXX]; unfold U; unfold INF at Yle; omega
   rw [← hXX] at o1
   clear hXX Yle
   go_enter Tryz.func156, Tryz.ntmps156
   go_wp2_with (first
    | (go_at_call 220; refine C.out.mono ?_; rintro e w' ⟨⟨z, hz, rfl⟩, rfl⟩; have Z := Lib.hid hz; clear hz)
    | (go_at_call 221; refine (CR.out _ _ Z.out).mono ?_; rintro e w1 ⟨rfl, hb⟩; have I := Lib.hid hb; clear hb))
   go_ret3
   exact ⟨by rw [EX.out]; rfl, I.out⟩
end Go.Proofs.YtlgencbldbpbdaaGreatDoor
namespace Go.Proofs.YtlgencbldbpbdaaGreatDoor
open Go.RowKit Fl
theorem or32_fin : ∀ x : Fin 256, bits .or .u8 ((x.val : Nat) : Int) 32 = ((if x.val = 101 ∨ x.val = 69 then 101 else x.val ||| 32 : Nat) : Int) ∧ (¬ (x.val = 101 ∨ x.val = 69) → x.val ||| 32 ≠ 101) := by decide +kernel
theorem or32_yes {x : Nat} (h : x = 101 ∨ x = 69) : bits .or .u8 (x : Int) 32 = 101 := by
 have := (or32_fin ⟨x, by omega⟩).1
 rw [if_pos h] at this
 exact this
theorem or32_no {x : Nat} (hx : x < 256) (h : ¬ (x = 101 ∨ x = 69)) : ∃ y : Nat, y ≠ 101 ∧ bits .or .u8 (x : Int) 32 = (y : Int) := by
 have h1 := (or32_fin ⟨x, hx⟩)
 refine ⟨x ||| 32, h1.2 h, ?_⟩
 have := h1.1
 rw [if_neg h] at this
 exact this
theorem byte_lt (s : ByteArray) (k : Nat) (h : k < s.size) : (s[k]).toNat < 256 := UInt8.toNat_lt _
structure ExpF (l : List Nat) (n T : Nat) (A K N : Nat) (I : Int) (X : Nat) (C G : Bool) : Prop where
 hA : A = xAt (l.drop T)
 hC : C = decide ((l.drop T).getD 1 0 = 43 ∨ (l.drop T).getD 1 0 = 45)
 hG : G = decide ((l.drop T).getD 1 0 = 45)
 hK : K = T + A
 hN : N = runD (l.drop K)
 kn : K + N ≤ n
 a1 : A = 1 ∨ A = 2
 c1 : (C = true ∧ A = 2) ∨ (C = false ∧ A = 1)
 z0 : N = 0 → I = 0 ∧ X = 0
 i0 : I = if G = true then -((min FAR (dval ((l.drop K).take N)) : Nat) : Int) else ((min FAR (dval ((l.drop K).take N)) : Nat) : Int)
 x0 : N ≠ 0 → X = A + N
theorem getD_at (l : List Nat) (T k : Nat) : (l.drop T).getD k 0 = l.getD (T + k) 0 := by rw [List.getD, List.getD, List.getElem?_drop]
theorem expF {l : List Nat} {T : Nat} (hT : T < l.length) (he : (l.drop T).getD 0 0 = 101 ∨ (l.drop T).getD 0 0 = 69) :
  ExpF l l.length T (xAt (l.drop T)) (T + xAt (l.drop T)) (xN (l.drop T)) (xI FAR (l.drop T)) (xSz (l.drop T)) (decide ((l.drop T).getD 1 0 = 43 ∨ (l.drop T).getD 1 0 = 45)) (decide ((l.drop T).getD 1 0 = 45)) := by
 have hN : xN (l.drop T) = runD (l.drop (T + xAt (l.drop T))) := by unfold xN; rw [if_pos he, List.drop_drop]
 have a1 : xAt (l.drop T) = 1 ∨ xAt (l.drop T) = 2 := by unfold xAt; split <;> omega
 have ka : T + xAt (l.drop T) ≤ l.length := by
  rcases Nat.lt_or_ge (T + 1) l.length with h | h
  ·omega
  ·have : xAt (l.drop T) = 1 := by unfold xAt; rw [getD_at, getD_none h, if_neg (by decide)]
   omega
 exact {
  hA := rfl, hC := rfl, hG := rfl, hK := rfl, hN := hN
  kn := by
   have := runD_le (l.drop (T + xAt (l.drop T)))
   rw [List.length_drop] at this
   omega
  a1 := a1
  c1 := by
   unfold xAt
   by_cases h : (l.drop T).getD 1 0 = 43 ∨ (l.drop T).getD 1 0 = 45
   ·left; rw [if_pos h]; exact ⟨decide_eq_true h, rfl⟩
   ·right; rw [if_neg h]; exact ⟨decide_eq_false h, rfl⟩
  z0 := fun h => ⟨xI_zero h, by unfold xSz; rw [if_pos h]⟩
  i0 := by
   unfold xI xV
   rw [List.drop_drop]
   simp only [decide_eq_true_eq]
  x0 := fun h => by unfold xSz; rw [if_neg h] }
set_option maxRecDepth 100000 in
set_option maxHeartbeats 4000000 in
theorem lParse (s : ByteArray) (w : World) (hs : s.size ≤ 562949953421312) :
  Calls Tryz.prog 142 #[.string s] w fun e w' => e = .returned (.tuple #[.float .f64 (pW (bl s)), .int .i64 (pN (bl s) : Nat), .int .i64 (pErr (bl s) : Nat)]) ∧ Below w.heap.size w w' := by
 have s1 : (s.size : Int) ≤ 562949953421312 := by omega
 have LB := Lib.hid (bl_len s)
 obtain ⟨l, hl⟩ : ∃ l, l = bl s := ⟨_, rfl⟩
 obtain ⟨RX, hRX⟩ : ∃ RX, RX = pW l := ⟨_, rfl⟩
 obtain ⟨RN, hRN⟩ : ∃ RN, RN = pN l := ⟨_, rfl⟩
 obtain ⟨RQ, hRQ⟩ : ∃ RQ, RQ = pErr l := ⟨_, rfl⟩
 rw [← hl, ← hRX, ← hRN, ← hRQ]
 have HRX := Lib.hid hRX
 have HRN := Lib.hid hRN
 have HRQ := Lib.hid hRQ
 clear hRX hRN hRQ
 obtain ⟨B, hB⟩ : ∃ B, B = decide (l.getD 0 0 = 45) := ⟨_, rfl⟩
 obtain ⟨C, hC⟩ : ∃ C, C = decide (l.getD 0 0 = 43 ∨ l.getD 0 0 = 45) := ⟨_, rfl⟩
 obtain ⟨A, hA⟩ : ∃ A, A = fAt l := ⟨_, rfl⟩
 obtain ⟨W, hW⟩ : ∃ W, W = fWh l := ⟨_, rfl⟩
 obtain ⟨F, hF⟩ : ∃ F, F = fFr l := ⟨_, rfl⟩
 obtain ⟨T, hT⟩ : ∃ T, T = fTo l := ⟨_, rfl⟩
 obtain ⟨M, hM⟩ : ∃ M, M = A + W := ⟨_, rfl⟩
 obtain ⟨D, hD⟩ : ∃ D, D = decide (l.getD M 0 = 46) := ⟨_, rfl⟩
 obtain ⟨E, hE⟩ : ∃ E, E = decide (l.getD T 0 = 101 ∨ l.getD T 0 = 69) := ⟨_, rfl⟩
 obtain ⟨I, hI⟩ : ∃ I, I = xI FAR (l.drop T) := ⟨_, rfl⟩
 obtain ⟨X, hX⟩ : ∃ X, X = xSz (l.drop T) := ⟨_, rfl⟩
 have AC : Hid (A = if C = true then 1 else 0) := Lib.hid (by rw [hA, hC]; unfold fAt; simp only [decide_eq_true_eq])
 have ll : l.length = s.size := by rw [hl, bl_len]
 have n1 : A ≤ s.size := by rw [hA, ← ll]; exact fAt_le l
 have n2 : M ≤ s.size := by rw [hM, hA, hW, ← ll]; exact fWh_le l
 have n3 : T ≤ s.size := by rw [hT, ← ll]; exact fTo_le l
 have n4 : D = true → M + 1 + F ≤ s.size := fun h => by
  rw [hM, hA, hW, hF, ← ll]
  refine fFr_le ?_
  rw [← hA, ← hW, ← hM]
  exact of_decide_eq_true (by rw [← hD]; exact h)
 have HFd : Hid (D = true → F = runD (l.drop (M + 1))) := Lib.hid (fun h => by
  rw [hF]; unfold fFr
  rw [← hA, ← hW, ← hM, if_pos (of_decide_eq_true (by rw [← hD]; exact h))])
 have HFz : Hid (D = false → F = 0) := Lib.hid (fun h => by
  rw [hF]; refine fFr_zero ?_
  rw [← hA, ← hW, ← hM]
  exact of_decide_eq_false (by rw [← hD]; exact h))
 have HTt : Hid (D = true → W + F ≠ 0 → T = M + 1 + F) := Lib.hid (fun h h2 => by
  rw [hT]; unfold fTo
  rw [← hA, ← hW, ← hF, ← hM, if_pos ⟨of_decide_eq_true (by rw [← hD]; exact h), h2⟩])
 have HTf : Hid (D = false ∨ W + F = 0 → T = M) := Lib.hid (fun h => by
  rw [hT]; unfold fTo
  rw [← hA, ← hW, ← hF, ← hM, if_neg (fun e => h.elim (fun h => of_decide_eq_false (by rw [← hD]; exact h) e.1) (fun h => e.2 h))])
 have HDG : Hid (fDg l = (l.drop A).take W ++ (l.drop (M + 1)).take F) := Lib.hid (by unfold fDg; rw [← hA, ← hW, ← hF, ← hM])
 have HDL : Hid ((fDg l).length = W + F) := Lib.hid (by rw [hW, hF]; exact fDg_len l)
 have HWd : Hid (W = runD (l.drop A)) := Lib.hid (by rw [hW, hA]; rfl)
 have C27 := Lib.hid (fun w => lRun s A w hs n1)
 rw [← hl, ← HWd.out] at C27
 have C27b : Hid (D = true → ∀ w, Calls Tryz.prog 206 #[.string s, .int .i64 ((M + 1 : Nat) : Int)] w fun e w' => e = .returned (.int .i64 (F : Nat)) ∧ w = w') := Lib.hid (fun h w => by
  have := lRun s (M + 1) w hs (by have := n4 h; omega)
  rw [← hl, ← HFd.out h] at this
  exact this)
 have IB : -(1099511627776 : Int) ≤ I ∧ I ≤ 1099511627776 := by rw [hI]; exact xI_le _
 obtain ⟨I1, I2⟩ := IB
 obtain ⟨p, hp⟩ : ∃ p, p = (W : Int) + I := ⟨_, rfl⟩
 obtain ⟨Y, hY⟩ : ∃ Y, Y = readF (fDg l) p := ⟨_, rfl⟩
 have Yle : Y ≤ INF := by rw [hY]; exact readF_le _ _
 have hne : fDg l ≠ [] → RX = Y + (if B = true then 9223372036854775808 else 0) ∧ RN = T + X ∧ RQ = 0 := fun h => by
  refine ⟨?_, ?_, ?_⟩
  ·rw [HRX.out, hY, hp, hI, hW, hT, hB]; unfold pW; rw [if_neg h]; simp only [decide_eq_true_eq]
  ·rw [HRN.out, hX, hT]; unfold pN; rw [if_neg h]
  ·rw [HRQ.out]; unfold pErr; rw [if_neg h]
 have hnil : fDg l = [] → RX = 0 ∧ RN = 0 ∧ RQ = 31 := fun h => by
  refine ⟨?_, ?_, ?_⟩
  ·rw [HRX.out]; unfold pW; rw [if_pos h]
  ·rw [HRN.out]; unfold pN; rw [if_pos h]
  ·rw [HRQ.out]; unfold pErr; rw [if_pos h]
 have HNE := Lib.hid hne
 have HNIL := Lib.hid hnil
 have CR : Hid (∀ (z : ByteArray) (w : World), bl z = fDg l → Calls Tryz.prog 192 #[.string z, .int .i64 p] w fun e w' => e = .returned (.float .f64 Y) ∧ Below w.heap.size w w') := Lib.hid (fun z w h => by
  have hz : z.size ≤ 562949953421312 := by
   have h1 := fDg_le l
   rw [← bl_len, h]; omega
  have := lRead z p w (by rw [h]; exact fDg_dg l) hz (by omega)
  rw [h, ← hY] at this
  exact this)
 have HX0 : Hid (E = false → I = 0 ∧ X = 0) := Lib.hid (fun h => by
  have hz : xN (l.drop T) = 0 := by
   unfold xN
   rw [getD_at, Nat.add_zero, if_neg (of_decide_eq_false (by rw [← hE]; exact h))]
  exact ⟨by rw [hI, xI_zero hz], by rw [hX]; unfold xSz; rw [if_pos hz]⟩)
 have tlt : E = true → T < s.size := fun h => by
  rcases Nat.lt_or_ge T s.size with h1 | h1
  ·exact h1
  ·have := of_decide_eq_true (p := l.getD T 0 = 101 ∨ l.getD T 0 = 69) (by rw [← hE]; exact h)
   rw [getD_none (by rw [ll]; exact h1)] at this
   omega
 have HXX : Hid (E = true → T < s.size ∧ ExpF l s.size T (xAt (l.drop T)) (T + xAt (l.drop T)) (xN (l.drop T)) I X (decide ((l.drop T).getD 1 0 = 43 ∨ (l.drop T).getD 1 0 = 45)) (decide ((l.drop T).getD 1 0 = 45))) := Lib.hid (fun h => by
  refine ⟨tlt h, ?_⟩
  rw [hI, hX, ← ll]
  refine expF (by rw [ll]; exact tlt h) ?_
  rw [getD_at, Nat.add_zero]
  exact of_decide_eq_true (by rw [← hE]; exact h))
 have HB := Lib.hid hB
 have HC := Lib.hid hC
 have HD := Lib.hid hD
 have HE := Lib.hid hE
 have HL := Lib.hid hl
 have HM := Lib.hid hM
 have LL := Lib.hid ll
 have HS := Lib.hid hs
 have bA : Hid (∀ (k : Nat) (h : k < s.size), l.getD k 0 = (s[k]).toNat) := Lib.hid (fun k h => by rw [hl]; exact bl_getD s k h)
 have a1 : (A : Int) ≤ (s.size : Int) := by omega
 have a2 : (M : Int) ≤ (s.size : Int) := by omega
 have a3 : (T : Int) ≤ (s.size : Int) := by omega
 have a4 : (A : Int) + (W : Int) = (M : Int) := by omega
 have a6 : (A : Int) ≤ (M : Int) := by omega
 have a7 : (W : Int) ≤ 562949953421312 := by omega
 have N4 := Lib.hid n4
 have zl : Hid (bl (s.extract A M) = (l.drop A).take W) := Lib.hid (by rw [bl_slice s A M (by omega), ← hl, show M - A = W by omega])
 have hu : U Y := by unfold U; unfold INF at Yle; omega
 have HP := Lib.hid hp
 have HY := Lib.hid Yle
 clear hl hB hC hA hW hF hT hM hD hE hI hX ll n1 n2 n3 n4 hs hp hY Yle hne hnil tlt
 go_enter Tryz.func142, Tryz.ntmps142
 go_upto_region 3 with fail
 go_cut [32] (fun u wx => u = .bool C ∧ wx = w)
 case first =>
  by_cases h1 : 0 < s.size
  ·have x1 := bA.out 0 h1
   have h1i : (0 : Int) < (s.size : Int) := by omega
   by_cases d1 : (s[0]).toNat = 43
   ·have EE : Hid (C = true) := Lib.hid (by rw [HC.out, x1]; exact decide_eq_true (.inl d1))
    have d1i : ((s[0]).toNat : Int) = 43 := by omega
    clear d1 x1
    go_wp2_with fail
    go_meet
    exact ⟨by rw [EE.out] <;> rfl, rfl⟩
   ·have d1i : (((s[0]).toNat : Int) == 43) = false := beq_eq_false_iff_ne.2 (by omega)
    by_cases d2 : (s[0]).toNat = 45
    ·have EE : Hid (C = true) := Lib.hid (by rw [HC.out, x1]; exact decide_eq_true (.inr d2))
     have d2i : ((s[0]).toNat : Int) = 45 := by omega
     clear d1 d1i d2 x1
     go_wp2_with fail
     go_meet
     exact ⟨by rw [EE.out] <;> rfl, rfl⟩
    ·have EE : Hid (C = false) := Lib.hid (by rw [HC.out, x1]; exact decide_eq_false (fun e => e.elim d1 d2))
     have d2i : (((s[0]).toNat : Int) == 45) = false := beq_eq_false_iff_ne.2 (by omega)
     clear d1 d2 x1
     go_wp2_with fail
     go_meet
     exact ⟨by rw [EE.out] <;> rfl, rfl⟩
  ·have h1i : ¬ (0 : Int) < (s.size : Int) := by omega
   have EE : Hid (C = false) := Lib.hid (by rw [HC.out, getD_none (by rw [LL.out]; omega)]; rfl)
   clear h1
   go_wp2_with fail
   go_meet
   exact ⟨by rw [EE.out] <;> rfl, rfl⟩
 case rest =>
  obtain ⟨rfl, rfl⟩ := hcut
  go_upto_if 32 with fail
  go_cut [5, 6] (fun a b wx => a = .int .i64 (A : Int) ∧ b = .bool B ∧ wx = wc)
  case first =>
   cases C
   ·have E1 : Hid (A = 0) := Lib.hid (by rw [AC.out]; rfl)
    have E2 : Hid (B = false) := Lib.hid (by rw [HB.out]; exact decide_eq_false (fun h => of_decide_eq_false HC.out.symm (.inr h)))
    go_wp2_with fail
    go_meet
    exact ⟨by rw [E1.out] <;> rfl, by rw [E2.out], rfl⟩
   ·have E1 : Hid (A = 1) := Lib.hid (by rw [AC.out]; rfl)
    have h1 : 0 < s.size := by
     have := of_decide_eq_true HC.out.symm
     rcases Nat.lt_or_ge 0 s.size with h | h
     ·exact h
     ·rw [getD_none (by rw [LL.out]; exact h)] at this; omega
    have x1 := bA.out 0 h1
    have h1i : (0 : Int) < (s.size : Int) := by omega
    by_cases d2 : (s[0]).toNat = 45
    ·have E2 : Hid (B = true) := Lib.hid (by rw [HB.out, x1]; exact decide_eq_true d2)
     have d2i : ((s[0]).toNat : Int) = 45 := by omega
     clear d2 x1
     go_wp2_with fail
     go_meet
     exact ⟨by rw [E1.out] <;> rfl, by rw [E2.out], rfl⟩
    ·have E2 : Hid (B = false) := Lib.hid (by rw [HB.out, x1]; exact decide_eq_false d2)
     have d2i : (((s[0]).toNat : Int) == 45) = false := beq_eq_false_iff_ne.2 (by omega)
     clear d2 x1
     go_wp2_with fail
     go_meet
     exact ⟨by rw [E1.out] <;> rfl, by rw [E2.out], rfl⟩
  case rest =>
   obtain ⟨rfl, rfl, rfl⟩ := hcut
   go_upto_region 9 with (go_at_call 206; refine (C27.out _).mono ?_; rintro e w' ⟨rfl, rfl⟩)
   go_cut [60] (fun u wx => u = .bool D ∧ wx = wc)
   case first =>
    by_cases h1 : M < s.size
    ·have x1 := bA.out M h1
     have h1i : (M : Int) < (s.size : Int) := by omega
     by_cases d1 : (s[M]).toNat = 46
     ·have EE : Hid (D = true) := Lib.hid (by rw [HD.out, x1]; exact decide_eq_true d1)
      have d1i : ((s[M]).toNat : Int) = 46 := by omega
      clear d1 x1
      go_wp2_with fail
      go_meet
      exact ⟨by rw [EE.out] <;> rfl, rfl⟩
     ·have EE : Hid (D = false) := Lib.hid (by rw [HD.out, x1]; exact decide_eq_false d1)
      have d1i : (((s[M]).toNat : Int) == 46) = false := beq_eq_false_iff_ne.2 (by omega)
      clear d1 x1
      go_wp2_with fail
      go_meet
      exact ⟨by rw [EE.out] <;> rfl, rfl⟩
    ·have h1i : ¬ (M : Int) < (s.size : Int) := by omega
     have EE : Hid (D = false) := Lib.hid (by rw [HD.out, getD_none (by rw [LL.out]; omega)]; rfl)
     clear h1
     go_wp2_with fail
     go_meet
     exact ⟨by rw [EE.out] <;> rfl, rfl⟩
   case rest =>
    obtain ⟨rfl, rfl⟩ := hcut
    go_upto_if 60 with fail
    go_cut [5, 8] (fun a d wx => ∃ z : ByteArray, d = .string z ∧ Hid (bl z = fDg l) ∧ a = .int .i64 (T : Int) ∧ wx = wc)
    case first =>
     cases D
     ·have E1 : Hid (F = 0) := Lib.hid (HFz.out rfl)
      have E2 : Hid (T = M) := Lib.hid (HTf.out (.inl rfl))
      have E3 : Hid (bl (s.extract A M) = fDg l) := Lib.hid (by rw [zl.out, HDG.out, E1.out, List.take_zero, List.append_nil])
      go_wp2_with fail
      go_meet
      exact ⟨_, rfl, E3, by rw [E2.out], rfl⟩
     ·have CC := Lib.hid (C27b.out rfl)
      have f1 : (M : Int) + 1 + (F : Int) ≤ (s.size : Int) := by have := N4.out rfl; omega
      have f0 : (M : Int) + 1 = ((M + 1 : Nat) : Int) := by omega
      obtain ⟨M1, hM1⟩ : ∃ M1, M1 = M + 1 := ⟨_, rfl⟩
      rw [← hM1] at CC f0
      obtain ⟨M2, hM2⟩ : ∃ M2, M2 = M1 + F := ⟨_, rfl⟩
      have f2 : (M1 : Int) + (F : Int) = (M2 : Int) := by omega
      have f3 : (M1 : Int) ≤ (M2 : Int) := by omega
      have f4 : (M2 : Int) ≤ (s.size : Int) := by omega
      have f5 : (M : Int) + (1 + (F : Int)) = (M2 : Int) := by omega
      have zl2 : Hid (bl (s.extract A M ++ s.extract M1 M2) = fDg l) := Lib.hid (by
       rw [bl_append, zl.out, HDG.out, bl_slice s M1 M2 (by omega), ← HL.out, show M2 - M1 = F by omega, hM1])
      by_cases hz : W + F = 0
      ·have E2 : Hid (T = M) := Lib.hid (HTf.out (.inr hz))
       have E3 : Hid (bl (s.extract A M) = fDg l) := Lib.hid (by rw [zl.out, HDG.out, show F = 0 by omega, List.take_zero, List.append_nil])
       have g1 : ¬ (0 : Int) < (W : Int) + (F : Int) := by omega
       clear hz f1 hM1 hM2
       go_wp2_with (go_at_call 206; refine (CC.out _).mono ?_; rintro e w' ⟨rfl, rfl⟩)
       go_meet
       exact ⟨_, rfl, E3, by rw [E2.out], rfl⟩
      ·have E2 : Hid ((M2 : Int) = (T : Int)) := Lib.hid (by rw [HTt.out rfl hz]; omega)
       have g1 : (0 : Int) < (W : Int) + (F : Int) := by omega
       clear hz f1 hM1 hM2
       go_wp2_with (go_at_call 206; refine (CC.out _).mono ?_; rintro e w' ⟨rfl, rfl⟩)
       go_meet
       exact ⟨_, rfl, zl2, by rw [E2.out], rfl⟩
    case rest =>
     obtain ⟨z, rfl, hz, rfl, rfl⟩ := hcut
     have zs : z.size = W + F := by rw [← bl_len, hz.out, HDL.out]
     by_cases h0 : W + F = 0
     ·have E := Lib.hid (HNIL.out (List.eq_nil_of_length_eq_zero (by rw [HDL.out]; exact h0)))
      obtain ⟨e1, e2, -⟩ := empty_bl (s := z) (by omega)
      clear zs h0
      go_wp2_with fail
      go_ret3
      exact ⟨by rw [E.out.1, E.out.2.1, E.out.2.2]; rfl, Below.refl _ _⟩
     ·have NE := Lib.hid (HNE.out (fun e => h0 (by rw [← HDL.out, e]; rfl)))
      obtain ⟨e1, e2⟩ := full_bl (s := z) (by omega)
      clear zs h0 HNE HNIL HRX HRN HRQ
      go_upto_region 17 with fail
      go_cut [96] (fun u wx => u = .bool E ∧ wx = wc)
      case first =>
       by_cases h1 : T < s.size
       ·have x1 := bA.out T h1
        have h1i : (T : Int) < (s.size : Int) := by omega
        by_cases d1 : (s[T]).toNat = 101 ∨ (s[T]).toNat = 69
        ·have EE : Hid (E = true) := Lib.hid (by rw [HE.out, x1]; exact decide_eq_true d1)
         have d1i := or32_yes d1
         clear d1 x1
         go_wp2_with fail
         go_meet
         exact ⟨by rw [EE.out] <;> rfl, rfl⟩
        ·have EE : Hid (E = false) := Lib.hid (by rw [HE.out, x1]; exact decide_eq_false d1)
         obtain ⟨y, y1, d1i⟩ := or32_no (byte_lt s T h1) d1
         have y2 : ((y : Int) == 101) = false := beq_eq_false_iff_ne.2 (by omega)
         clear d1 x1 y1
         go_wp2_with fail
         go_meet
         exact ⟨by rw [EE.out] <;> rfl, rfl⟩
       ·have h1i : ¬ (T : Int) < (s.size : Int) := by omega
        have EE : Hid (E = false) := Lib.hid (by rw [HE.out, getD_none (by rw [LL.out]; omega)]; rfl)
        clear h1
        go_wp2_with fail
        go_meet
        exact ⟨by rw [EE.out] <;> rfl, rfl⟩
      case rest =>
       obtain ⟨rfl, rfl⟩ := hcut
       go_upto_if 96 with fail
       go_cut [5, 10] (fun a q wx => a = .int .i64 ((T + X : Nat) : Int) ∧ q = .int .i64 p ∧ Hid (Below wc.heap.size wc wx))
       case first =>
        as_aux_lemma =>
         cases E
         ·have EX := Lib.hid (HX0.out rfl)
          have E2 : Hid (p = (W : Int)) := Lib.hid (by rw [HP.out, EX.out.1, Int.add_zero])
          clear HX0 HXX
          go_wp2_with fail
          go_meet
          exact ⟨by rw [EX.out.2]; rfl, by rw [E2.out], Lib.hid (Below.refl _ _)⟩
         ·obtain ⟨t1, hx⟩ := HXX.out rfl
          clear HX0 HXX
          have te := of_decide_eq_true HE.out.symm
          obtain ⟨A2, hA2⟩ : ∃ A2, A2 = xAt (l.drop T) := ⟨_, rfl⟩
          obtain ⟨K, hK⟩ : ∃ K, K = T + A2 := ⟨_, rfl⟩
          obtain ⟨N, hN⟩ : ∃ N, N = xN (l.drop T) := ⟨_, rfl⟩
          obtain ⟨C2, hC2⟩ : ∃ C2, C2 = decide ((l.drop T).getD 1 0 = 43 ∨ (l.drop T).getD 1 0 = 45) := ⟨_, rfl⟩
          obtain ⟨G, hG⟩ : ∃ G, G = decide ((l.drop T).getD 1 0 = 45) := ⟨_, rfl⟩
          rw [← hA2, ← hN, ← hC2, ← hG, ← hK] at hx
          clear hA2 hN hC2 hG
          have HX := Lib.hid hx
          obtain ⟨T1, hT1⟩ : ∃ T1, T1 = T + 1 := ⟨_, rfl⟩
          obtain ⟨J, hJ⟩ : ∃ J, K = J + 1 := ⟨T + (A2 - 1), by have := hx.a1; omega⟩
          obtain ⟨KN, hKN⟩ : ∃ KN, KN = K + N := ⟨_, rfl⟩
          have kn := hx.kn
          have t2 : (T : Int) + 1 = (T1 : Int) := by omega
          have k1 : (K : Int) ≤ (s.size : Int) := by omega
          have k2 : (K : Int) + (N : Int) = (KN : Int) := by omega
          have k3 : (KN : Int) ≤ (s.size : Int) := by omega
          have k4 : (K : Int) ≤ (KN : Int) := by omega
          have k5 : (K : Int) - 1 = (J : Int) := by omega
          have j1 : J < s.size := by omega
          have j2 : (J : Int) < (s.size : Int) := by omega
          have CK := Lib.hid (fun w => lRun s K w HS.out (by omega))
          rw [← HL.out, ← hx.hN] at CK
          have GJ : (((s[J]).toNat : Int) == 45) = G := by
           have e1 := bA.out J j1
           rcases hx.a1 with h | h
           ·have hj : J = T := by omega
            have hg : G = false := by
             rw [hx.hG]
             refine decide_eq_false (fun e => ?_)
             rcases hx.c1 with c | c
             ·omega
             ·have := c.1
              rw [hx.hC] at this
              exact of_decide_eq_false this (.inr e)
            rw [hg, beq_eq_false_iff_ne]
            rw [← hj, e1] at te
            omega
           ·have hj : J = T + 1 := by omega
            rw [hx.hG, getD_at, ← hj, e1]
            by_cases h45 : (s[J]).toNat = 45
            ·rw [h45]; rfl
            ·rw [decide_eq_false h45, beq_eq_false_iff_ne]; omega
          have zb : bl (s.extract K KN) = (l.drop K).take N := by rw [bl_slice s K KN (by omega), ← HL.out, show KN - K = N by omega]
          have zsz : (s.extract K KN).size = N := by
           rw [← bl_len, zb, List.length_take, List.length_drop, LL.out]; omega
          have kc : ∀ w, (convert 9 179 (.string (s.extract K KN))).run Tryz.prog w = .ok (.slice (some ⟨w.heap.size, 0, none⟩) N (grownCap w N 0 5)) (Lib.bytesWorld w 5 (s.extract K KN)) := fun w => by
           have := Lib.run_convert_string_bytes w 9 179 5 (s.extract K KN) Tryz.underlying9 Tryz.underlying179 Tryz.underlying5
           rw [zsz] at this
           exact this
          have KB : Hid (∀ j x, j < N → ((l.drop K).take N)[j]? = some x → (Lib.bytesWorld wc 5 (s.extract K KN)).cell? ⟨wc.heap.size, j, none⟩ = some (.int .u8 (x : Nat))) := Lib.hid (fun j x hj hx => by
           have := Lib.bytesWorld_cell wc 5 (s.extract K KN) j (by rw [zsz]; exact hj)
           rw [bl_data, zb, List.getD, hx] at this
           exact this)
          have B0 := Lib.hid (Lib.bytesWorld_below wc 5 (s.extract K KN))
          have GC : Hid (N ≤ grownCap wc N 0 5) := Lib.hid (Go.grownCap_ge wc N 0 5)
          have HJ := Lib.hid hJ
          have HK := Lib.hid hK
          have HT1 := Lib.hid hT1
          have HKN := Lib.hid hKN
          have T1L := Lib.hid t1
          clear hx te hK hT1 hJ hKN kn t1 zb zsz
          go_upto_region 19 with fail
          go_cut [114] (fun u wx => u = .bool C2 ∧ wx = wc)
          case first =>
           by_cases h1 : T1 < s.size
           ·have x1 := bA.out T1 h1
            have g1 : (l.drop T).getD 1 0 = (s[T1]).toNat := by rw [getD_at, ← HT1.out]; exact x1
            have h1i : (T1 : Int) < (s.size : Int) := by omega
            by_cases d1 : (s[T1]).toNat = 43
            ·have EE : Hid (C2 = true) := Lib.hid (by rw [HX.out.hC, g1]; exact decide_eq_true (.inl d1))
             have d1i : ((s[T1]).toNat : Int) = 43 := by omega
             clear d1 x1 g1
             go_wp2_with fail
             go_meet
             exact ⟨by rw [EE.out] <;> rfl, rfl⟩
            ·have d1i : (((s[T1]).toNat : Int) == 43) = false := beq_eq_false_iff_ne.2 (by omega)
             by_cases d2 : (s[T1]).toNat = 45
             ·have EE : Hid (C2 = true) := Lib.hid (by rw [HX.out.hC, g1]; exact decide_eq_true (.inr d2))
              have d2i : ((s[T1]).toNat : Int) = 45 := by omega
              clear d1 d1i d2 x1 g1
              go_wp2_with fail
              go_meet
              exact ⟨by rw [EE.out] <;> rfl, rfl⟩
             ·have EE : Hid (C2 = false) := Lib.hid (by rw [HX.out.hC, g1]; exact decide_eq_false (fun e => e.elim d1 d2))
              have d2i : (((s[T1]).toNat : Int) == 45) = false := beq_eq_false_iff_ne.2 (by omega)
              clear d1 d2 x1 g1
              go_wp2_with fail
              go_meet
              exact ⟨by rw [EE.out] <;> rfl, rfl⟩
           ·have h1i : ¬ (T1 : Int) < (s.size : Int) := by omega
            have EE : Hid (C2 = false) := Lib.hid (by rw [HX.out.hC, getD_at, getD_none (by rw [LL.out, ← HT1.out]; omega)]; rfl)
            clear h1
            go_wp2_with fail
            go_meet
            exact ⟨by rw [EE.out] <;> rfl, rfl⟩
          case rest =>
           obtain ⟨rfl, rfl⟩ := hcut
           go_upto_if 114 with fail
           go_cut [11] (fun a wx => a = .int .i64 (K : Int) ∧ wx = wc)
           case first =>
            cases C2
            ·have EE : Hid ((T1 : Int) = (K : Int)) := Lib.hid (by have := HX.out.c1; simp at this; have := HK.out; have := HT1.out; omega)
             go_wp2_with fail
             go_meet
             exact ⟨by rw [EE.out], rfl⟩
            ·have EE : (T1 : Int) + 1 = (K : Int) := by have := HX.out.c1; simp at this; have := HK.out; have := HT1.out; omega
             go_wp2_with fail
             go_meet
             exact ⟨rfl, rfl⟩
           case rest =>
            obtain ⟨rfl, rfl⟩ := hcut
            clear t2
            by_cases hz0 : N = 0
            ·have EZ := Lib.hid (HX.out.z0 hz0)
             have E2 : Hid (p = (W : Int)) := Lib.hid (by rw [HP.out, EZ.out.1, Int.add_zero])
             have E3 : Hid (X = 0) := Lib.hid EZ.out.2
             clear kc KB GC
             subst hz0
             go_wp2_with (go_at_call 206; refine (CK.out _).mono ?_; rintro e w' ⟨rfl, rfl⟩)
             go_meet
             exact ⟨by rw [E3.out]; rfl, by rw [E2.out], Lib.hid (Below.refl _ _)⟩
            ·have hz1 : (0 : Int) < (N : Int) := by omega
             have E3 : Hid ((KN : Int) = ((T + X : Nat) : Int)) := Lib.hid (by rw [HX.out.x0 hz0]; have := HKN.out; have := HK.out; omega)
             have NL : Hid (N ≤ s.size) := Lib.hid (by have := HX.out.kn; omega)
             have n1 : (N : Int) ≤ 562949953421312 := by have := NL.out; omega
             clear hz0
             go_upto_region 25 with (go_at_call 206; refine (CK.out _).mono ?_; rintro e w' ⟨rfl, rfl⟩)
             generalize Lib.bytesWorld wc 5 (s.extract K KN) = w1 at *
             generalize grownCap wc N 0 5 = cp at *
             clear kc
             go_loopw [13, 130] (fun e i wx => ∃ j : Nat, j ≤ N ∧ i = .int .i64 j ∧ e = .int .i64 ((min FAR (dval ((l.drop K).take j)) : Nat) : Int) ∧ wx = w1) (fun _ i _ => N - (intOf i).toNat)
             case atStart => exact ⟨0, Nat.zero_le _, rfl, by rw [List.take_zero]; rfl, rfl⟩
             case round =>
              as_aux_lemma =>
               obtain ⟨j, hj, rfl, rfl, rfl⟩ := hrel
               by_cases hlt : j < N
               ·have hji : (j : Int) < (N : Int) := by omega
                obtain ⟨x, hx⟩ : ∃ x, ((l.drop K).take N)[j]? = some x := ⟨((l.drop K).take N)[j]'(by rw [List.length_take, List.length_drop, LL.out]; have := HX.out.kn; omega), List.getElem?_eq_getElem _⟩
                have kcell := KB.out j x hlt hx
                have hx2 : (l.drop K)[j]? = some x := by rw [List.getElem?_take, if_pos hlt] at hx; exact hx
                have hdg := runD_dg (l.drop K) x (by rw [← HX.out.hN]; exact List.mem_of_getElem? hx)
                have E := dval_take hx2
                obtain ⟨d, hde⟩ : ∃ d, d = x - 48 := ⟨_, rfl⟩
                rw [← hde] at E
                have d1 : (x : Int) - 48 = (d : Int) := by omega
                have d2 : (d : Int) ≤ 9 := by omega
                have d4 : IntKind.u8.wrap (d : Int) = (d : Int) := by
                 have e : IntKind.u8.wrap (d : Int) = (d : Int) % 256 := rfl
                 rw [e]; omega
                obtain ⟨u, hu'⟩ : ∃ u, u = dval ((l.drop K).take j) := ⟨_, rfl⟩
                rw [← hu'] at E ⊢
                have mn := cap_int (cap := FAR) (by decide) u d
                have mm : min FAR u ≤ 1099511627776 := Nat.min_le_left _ _
                have E2 := Lib.hid E
                generalize hm1 : min FAR u = m1 at *
                generalize hm2 : min FAR (u * 10 + d) = m2 at *
                have HM2 := Lib.hid hm2
                have mm1 : (m1 : Int) ≤ 1099511627776 := by omega
                have mn2 : min (1099511627776 : Int) (10 * (m1 : Int) + (d : Int)) = (m2 : Int) := mn
                have HLT := Lib.hid hlt
                have GC2 : (N : Int) ≤ (cp : Int) := by have := GC.out; omega
                clear hx hx2 hdg E hde hu' mn mm hm1 hm2 hlt hj
                go_wp2_with fail
                go_roundw
                case rel => exact ⟨j + 1, HLT.out, by go_num, by rw [E2.out, HM2.out], trivial⟩
                case measure => have := HLT.out; simp [intOf]; omega
               ·have hji : ¬ (j : Int) < (N : Int) := by omega
                have hjn : j = N := by omega
                subst hjn
                have mm : min FAR (dval ((l.drop K).take j)) ≤ 1099511627776 := Nat.min_le_left _ _
                have II := HX.out.i0
                obtain ⟨m, hm⟩ : ∃ m, m = min FAR (dval ((l.drop K).take j)) := ⟨_, rfl⟩
                rw [← hm] at II mm ⊢
                have m1 : (m : Int) ≤ 1099511627776 := by omega
                clear hlt hm mm hj
                cases G
                ·have IE : Hid ((W : Int) + (m : Int) = p) := Lib.hid (by rw [HP.out, II]; rfl)
                 clear II
                 go_wp2_with fail
                 go_meet
                 exact ⟨by rw [E3.out], by rw [IE.out], B0⟩
                ·have IE : Hid ((W : Int) + -(m : Int) = p) := Lib.hid (by rw [HP.out, II]; rfl)
                 have GJ2 : ((s[J]).toNat : Int) = 45 := beq_iff_eq.1 GJ
                 clear II GJ
                 go_wp2_with fail
                 go_meet
                 exact ⟨by rw [E3.out], by rw [IE.out], B0⟩
       case rest =>
        as_aux_lemma =>
         obtain ⟨rfl, rfl, hW⟩ := hcut
         have tx : ((T + X : Nat) : Int) = (RN : Int) := by rw [NE.out.2.1]
         rw [tx]
         clear tx
         cases B
         ·have E1 : Hid (RX = Y) := Lib.hid (by rw [NE.out.1]; rfl)
          go_wp2_with (go_at_call 192; refine (CR.out _ _ hz.out).mono ?_; rintro e w1 ⟨rfl, hb⟩; have J := Lib.hid hb; clear hb)
          go_ret3
          exact ⟨by rw [E1.out, NE.out.2.2]; rfl, hW.out.trans (J.out.mono hW.out.size)⟩
         ·have E1 : Hid (RX = word true Y) := Lib.hid (by rw [NE.out.1, if_pos rfl]; unfold word; rw [if_pos rfl, Nat.add_comm])
          have CS : Hid (∀ w, Calls Tryz.prog 207 #[.float .f64 Y, .float .f64 13830554455654793216] w fun e w' => e = .returned (.float .f64 RX) ∧ w = w') := Lib.hid (fun w => by
           have := c175 Y 13830554455654793216 w hu (by unfold U; decide)
           rw [show sg 13830554455654793216 = true by decide, show rg Y = Y from Nat.mod_eq_of_lt (by have := HY.out; unfold INF at this; omega), ← E1.out] at this
           exact this)
          go_wp2_with (first
           | (go_at_call 192; refine (CR.out _ _ hz.out).mono ?_; rintro e w1 ⟨rfl, hb⟩; have J := Lib.hid hb; clear hb)
           | (go_at_call 207; refine (CS.out _).mono ?_; rintro e w2 ⟨rfl, rfl⟩))
          go_ret3
          exact ⟨by rw [NE.out.2.2]; rfl, hW.out.trans (J.out.mono hW.out.size)⟩
end Go.Proofs.YtlgencbldbpbdaaGreatDoor
namespace Go.Proofs.YtlgencbldbpbdaaGreatDoor
open Go.RowKit Fl
theorem ord_pos {x y : Nat} (hx : x ≤ INF) (hy : y ≤ INF) : FloatKind.f64.format.order x y = some (compare (x : Int) (y : Int)) := by
 have ux : U x := by unfold U; unfold INF at hx; omega
 have uy : U y := by unfold U; unfold INF at hy; omega
 have e : ∀ z, z ≤ INF → rg z = z ∧ sg z = false ∧ isN z = false := fun z hz => by
  have h1 : rg z = z := Nat.mod_eq_of_lt (by unfold INF at hz; omega)
  refine ⟨h1, ?_, ?_⟩
  ·unfold sg; exact decide_eq_false (by unfold INF at hz; omega)
  ·unfold isN; rw [h1]; exact decide_eq_false (by omega)
 rw [f64_order x y ux uy, (e x hx).2.2, (e y hy).2.2]
 unfold skey
 rw [(e x hx).2.1, (e y hy).2.1, (e x hx).1, (e y hy).1]
 rfl
structure RB (w wx : World) (A B : ByteArray) (p z : Int) : Prop where
 c0 : wx.cell? ⟨w.heap.size, 0, none⟩ = some (.string A)
 c1 : wx.cell? ⟨w.heap.size, 1, none⟩ = some (.string B)
 c2 : wx.cell? ⟨w.heap.size, 2, none⟩ = some (.int .i64 p)
 c3 : wx.cell? ⟨w.heap.size, 3, none⟩ = some (.int .i64 z)
 lt : w.heap.size < wx.heap.size
 l : Below w.heap.size w wx
theorem RB.below {w wx wy : World} {A B : ByteArray} {p z : Int} (h : RB w wx A B p z) (k : Below wx.heap.size wx wy) : RB w wy A B p z :=
 ⟨(k.cell (p := ⟨w.heap.size, 0, none⟩) h.lt).trans h.c0, (k.cell (p := ⟨w.heap.size, 1, none⟩) h.lt).trans h.c1, (k.cell (p := ⟨w.heap.size, 2, none⟩) h.lt).trans h.c2, (k.cell (p := ⟨w.heap.size, 3, none⟩) h.lt).trans h.c3, Nat.lt_of_lt_of_le h.lt k.size, h.l.trans (k.mono h.l.size)⟩
theorem RB.mk0 (w : World) (A B : ByteArray) (p z : Int) (t : TypeId) : RB w (w.alloc (.cells #[.string A, .string B, .int .i64 p, .int .i64 z] t)) A B p z :=
 ⟨by simp [go_sem], by simp [go_sem], by simp [go_sem], by simp [go_sem], by simp, (Below.refl _ _).alloc (Nat.le_refl _) _⟩
end Go.Proofs.YtlgencbldbpbdaaGreatDoor
