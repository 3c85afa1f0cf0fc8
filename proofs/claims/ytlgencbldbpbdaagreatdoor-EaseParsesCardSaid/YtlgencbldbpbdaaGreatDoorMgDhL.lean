/- digits.run, galleyref03.Digits, both Nearest. galleyref03.Digits, both Nearest, Same. What a text begins with as a figure. Plain laws. -/
import Derived.Test.YtlgencbldbpbdaaGreatDoorMgDhK
import Derived.Test.YtlgencbldbpbdaaGreatDoorMgQV
namespace Go.Proofs.YtlgencbldbpbdaaGreatDoor
open Go.RowKit Fl
def runD : List Nat → Nat
 | [] => 0
 | x :: l => if 48 ≤ x ∧ x ≤ 57 then runD l + 1 else 0
theorem runD_le : ∀ l, runD l ≤ l.length
 | [] => Nat.le_refl _
 | x :: l => by
   rw [runD, List.length_cons]
   have := runD_le l
   split <;> omega
theorem runD_step {l : List Nat} {k x : Nat} (h : l[k]? = some x) : runD (l.drop k) = if 48 ≤ x ∧ x ≤ 57 then runD (l.drop (k + 1)) + 1 else 0 := by
 have hk : k < l.length := (List.getElem?_eq_some_iff.1 h).1
 have e : l[k] = x := (List.getElem?_eq_some_iff.1 h).2
 rw [List.drop_eq_getElem_cons hk, runD, e]
def digB (x : Nat) : Bool := decide (48 ≤ x ∧ x ≤ 57)
set_option maxRecDepth 100000 in
set_option maxHeartbeats 1000000 in
theorem c52 (x : Nat) (w : World) : Calls Tryz.prog 265 #[.int .u8 x] w fun e w' => e = .returned (.bool (digB x)) ∧ w = w' := by
 by_cases h1 : 48 ≤ x
 ·have i1 : (48 : Int) ≤ (x : Int) := by omega
  by_cases h2 : x ≤ 57
  ·have i2 : (x : Int) ≤ 57 := by omega
   have E := Lib.hid (show digB x = true from decide_eq_true ⟨h1, h2⟩)
   clear h1 h2
   go_enter Tryz.func265, Tryz.ntmps265
   go_wp2
   go_ret
   exact ⟨by rw [E.out]; rfl, rfl⟩
  ·have i2 : ¬ (x : Int) ≤ 57 := by omega
   have E := Lib.hid (show digB x = false from decide_eq_false (fun h => h2 h.2))
   clear h1 h2
   go_enter Tryz.func265, Tryz.ntmps265
   go_wp2
   go_ret
   exact ⟨by rw [E.out]; rfl, rfl⟩
 ·have i1 : ¬ (48 : Int) ≤ (x : Int) := by omega
  have E := Lib.hid (show digB x = false from decide_eq_false (fun h => h1 h.1))
  clear h1
  go_enter Tryz.func265, Tryz.ntmps265
  go_wp2
  go_ret
  exact ⟨by rw [E.out]; rfl, rfl⟩
set_option maxRecDepth 100000 in
set_option maxHeartbeats 1000000 in
theorem lRun (s : ByteArray) (a : Nat) (w : World) (hs : s.size ≤ 562949953421312) (ha : a ≤ s.size) :
  Calls Tryz.prog 206 #[.string s, .int .i64 a] w fun e w' => e = .returned (.int .i64 (runD ((bl s).drop a) : Nat)) ∧ w = w' := by
 have HS := Lib.hid (And.intro hs ha)
 have s1 : (s.size : Int) ≤ 562949953421312 := by omega
 obtain ⟨R, hR⟩ : ∃ R, R = runD ((bl s).drop a) := ⟨_, rfl⟩
 rw [← hR]
 have HR := Lib.hid hR
 have LB := Lib.hid (bl_len s)
 have a1 : (a : Int) ≤ 562949953421312 := by omega
 clear hs ha hR
 go_enter Tryz.func206, Tryz.ntmps206
 go_wp2_with fail
 go_loopw [5] (fun i wx => ∃ k : Nat, i = .int .i64 k ∧ Hid (a ≤ k ∧ k ≤ s.size ∧ a + R = k + runD ((bl s).drop k)) ∧ wx = w) (fun i _ => s.size - (intOf i).toNat)
 case atStart => exact ⟨a, rfl, Lib.hid ⟨Nat.le_refl _, HS.out.2, by rw [HR.out]⟩, rfl⟩
 case round =>
  obtain ⟨k, rfl, hI, rfl⟩ := hrel
  have k1 : (k : Int) ≤ 562949953421312 := by have := hI.out; have := HS.out; omega
  by_cases hlt : k < s.size
  ·have hki : (k : Int) < (s.size : Int) := by omega
   have hx := bl_get s k hlt
   have hst := runD_step hx
   have C52 := Lib.hid (fun w => c52 (s[k]).toNat w)
   by_cases hd : 48 ≤ (s[k]).toNat ∧ (s[k]).toNat ≤ 57
   ·rw [if_pos hd] at hst
    have D : Hid (digB (s[k]).toNat = true) := Lib.hid (decide_eq_true hd)
    rw [D.out] at C52
    have E : Hid (a ≤ k + 1 ∧ k + 1 ≤ s.size ∧ a + R = k + 1 + runD ((bl s).drop (k + 1))) := Lib.hid ⟨by have := hI.out.1; omega, hlt, by have := hI.out.2.2; omega⟩
    clear hx hst hd D
    go_wp2_with (go_at_call 265; refine (C52.out _).mono ?_; rintro e w' ⟨rfl, rfl⟩)
    go_roundw
    case rel => exact ⟨k + 1, by go_num, E, trivial⟩
    case measure => simp [intOf]; omega
   ·rw [if_neg hd] at hst
    have D : Hid (digB (s[k]).toNat = false) := Lib.hid (decide_eq_false hd)
    rw [D.out] at C52
    have E : Hid ((k : Int) - (a : Int) = (R : Int)) := Lib.hid (by have := hI.out; omega)
    clear hx hst hd D
    go_wp2_with (go_at_call 265; refine (C52.out _).mono ?_; rintro e w' ⟨rfl, rfl⟩)
    go_ret
    exact ⟨by rw [← E.out]; rfl, rfl⟩
  ·have hki : ¬ (k : Int) < (s.size : Int) := by omega
   have E : Hid ((k : Int) - (a : Int) = (R : Int)) := Lib.hid (by
    have h1 := hI.out
    have : (bl s).drop k = [] := List.drop_eq_nil_of_le (by rw [LB.out]; omega)
    rw [this] at h1
    have : runD [] = 0 := rfl
    omega)
   clear hlt
   go_wp2_with fail
   go_ret
   exact ⟨by rw [← E.out]; rfl, rfl⟩
end Go.Proofs.YtlgencbldbpbdaaGreatDoor
namespace Go.Proofs.YtlgencbldbpbdaaGreatDoor
open Go.RowKit Fl
theorem readF_le (l : List Nat) (p : Int) : readF l p ≤ INF := by
 unfold readF
 split
 ·exact Nat.zero_le INF
 ·split
  ·exact Nat.le_refl INF
  ·split
   ·exact Nat.zero_le INF
   ·unfold numF; exact Nat.min_le_right _ _
end Go.Proofs.YtlgencbldbpbdaaGreatDoor
namespace Go.Proofs.YtlgencbldbpbdaaGreatDoor
open Fl
def fAt (l : List Nat) : Nat := if l.getD 0 0 = 43 ∨ l.getD 0 0 = 45 then 1 else 0
def fWh (l : List Nat) : Nat := runD (l.drop (fAt l))
def fFr (l : List Nat) : Nat := if l.getD (fAt l + fWh l) 0 = 46 then runD (l.drop (fAt l + fWh l + 1)) else 0
def fDg (l : List Nat) : List Nat := (l.drop (fAt l)).take (fWh l) ++ (l.drop (fAt l + fWh l + 1)).take (fFr l)
def fTo (l : List Nat) : Nat := if l.getD (fAt l + fWh l) 0 = 46 ∧ fWh l + fFr l ≠ 0 then fAt l + fWh l + 1 + fFr l else fAt l + fWh l
def xAt (r : List Nat) : Nat := if r.getD 1 0 = 43 ∨ r.getD 1 0 = 45 then 2 else 1
def xN (r : List Nat) : Nat := if r.getD 0 0 = 101 ∨ r.getD 0 0 = 69 then runD (r.drop (xAt r)) else 0
def xV (r : List Nat) : Nat := dval ((r.drop (xAt r)).take (xN r))
def xI (cap : Nat) (r : List Nat) : Int := if r.getD 1 0 = 45 then -(min cap (xV r) : Nat) else (min cap (xV r) : Nat)
def xSz (r : List Nat) : Nat := if xN r = 0 then 0 else xAt r + xN r
def FAR : Nat := 1099511627776
def FAR4 : Nat := 4398046511104
def pW (l : List Nat) : Nat := if fDg l = [] then 0 else readF (fDg l) (fWh l + xI FAR (l.drop (fTo l))) + (if l.getD 0 0 = 45 then 9223372036854775808 else 0)
def pN (l : List Nat) : Nat := if fDg l = [] then 0 else fTo l + xSz (l.drop (fTo l))
def pErr (l : List Nat) : Nat := if fDg l = [] then 31 else 0
theorem runD_dg : ∀ l : List Nat, DG (l.take (runD l))
 | [] => fun x hx => by simp at hx
 | y :: l => by
   rw [runD]
   by_cases h : 48 ≤ y ∧ y ≤ 57
   ·rw [if_pos h, List.take_succ_cons]
    intro x hx
    rcases List.mem_cons.1 hx with rfl | hx
    ·exact h
    ·exact runD_dg l x hx
   ·rw [if_neg h, List.take_zero]
    exact fun x hx => nomatch hx
theorem runD_take_len (l : List Nat) : (l.take (runD l)).length = runD l := by rw [List.length_take, Nat.min_eq_left (runD_le l)]
theorem fFr_zero {l : List Nat} (h : l.getD (fAt l + fWh l) 0 ≠ 46) : fFr l = 0 := by unfold fFr; rw [if_neg h]
theorem fDg_len (l : List Nat) : (fDg l).length = fWh l + fFr l := by
 unfold fDg
 rw [List.length_append]
 have h1 : ((l.drop (fAt l)).take (fWh l)).length = fWh l := runD_take_len _
 have h2 : ((l.drop (fAt l + fWh l + 1)).take (fFr l)).length = fFr l := by
  unfold fFr
  split
  ·exact runD_take_len _
  ·rfl
 rw [h1, h2]
theorem fDg_dg (l : List Nat) : DG (fDg l) := by
 unfold fDg
 intro x hx
 rcases List.mem_append.1 hx with hx | hx
 ·exact runD_dg _ x hx
 ·unfold fFr at hx
  split at hx
  ·exact runD_dg _ x hx
  ·simp at hx
theorem fAt_le (l : List Nat) : fAt l ≤ l.length := by
 unfold fAt
 split
 ·rename_i h
  cases l with
  | nil => simp at h
  | cons x l => rw [List.length_cons]; omega
 ·exact Nat.zero_le _
theorem fWh_le (l : List Nat) : fAt l + fWh l ≤ l.length := by
 have h1 := runD_le (l.drop (fAt l))
 have h2 := fAt_le l
 rw [List.length_drop] at h1
 unfold fWh
 omega
theorem fFr_le {l : List Nat} (h : l.getD (fAt l + fWh l) 0 = 46) : fAt l + fWh l + 1 + fFr l ≤ l.length := by
 have h1 := runD_le (l.drop (fAt l + fWh l + 1))
 have h3 : fAt l + fWh l < l.length := by
  rcases Nat.lt_or_ge (fAt l + fWh l) l.length with h4 | h4
  ·exact h4
  ·rw [List.getD, List.getElem?_eq_none h4] at h; cases h
 rw [List.length_drop] at h1
 unfold fFr
 rw [if_pos h]
 omega
theorem fTo_le (l : List Nat) : fTo l ≤ l.length := by
 unfold fTo
 split
 ·rename_i h
  exact fFr_le h.1
 ·exact fWh_le l
theorem fDg_le (l : List Nat) : (fDg l).length ≤ l.length := by
 rw [fDg_len]
 by_cases h : l.getD (fAt l + fWh l) 0 = 46
 ·have := fFr_le h; omega
 ·rw [fFr_zero h]; have := fWh_le l; omega
theorem far_law (d : List Nat) (wh V : Nat) (neg : Bool) (h1 : wh ≤ 1000000000) (h2 : d.length ≤ 1000000000) :
  readF d (wh + (if neg then -((min FAR V : Nat) : Int) else ((min FAR V : Nat) : Int))) = readF d (wh + (if neg then -((min FAR4 V : Nat) : Int) else ((min FAR4 V : Nat) : Int))) := by
 rcases Nat.lt_or_ge FAR V with h | h
 ·have hl := lead_le d
  have f1 : min FAR V = FAR := Nat.min_eq_left (Nat.le_of_lt h)
  have f2 : FAR ≤ min FAR4 V := by unfold FAR FAR4 at *; omega
  rw [f1]
  generalize min FAR4 V = z at *
  unfold readF
  unfold FAR at *
  by_cases hs : stripD d = []
  ·rw [if_pos (.inl hs), if_pos (.inl hs)]
  ·cases neg
   ·simp only [Bool.false_eq_true, if_false]
    have e1 : ∀ (q : Int) (a : Nat), 400 < q - lead d → (if stripD d = [] ∨ q < -1099511627776 then 0 else if 400 < q - lead d then INF else if q - lead d < -400 then 0 else a) = INF := fun q a g1 => by
     have g3 : ¬ (stripD d = [] ∨ q < -1099511627776) := fun g => g.elim hs (fun g => by omega)
     rw [if_neg g3, if_pos g1]
    rw [e1 _ _ (by omega), e1 _ _ (by omega)]
   ·simp only [if_true]
    have e1 : ∀ (q : Int) (a : Nat), q < 0 → q - lead d < -400 → (if stripD d = [] ∨ q < -1099511627776 then 0 else if 400 < q - lead d then INF else if q - lead d < -400 then 0 else a) = 0 := fun q a g1 g2 => by
     by_cases g3 : stripD d = [] ∨ q < -1099511627776
     ·rw [if_pos g3]
     ·rw [if_neg g3, if_neg (by omega), if_pos g2]
    rw [e1 _ _ (by omega) (by omega), e1 _ _ (by omega) (by omega)]
 ·rw [Nat.min_eq_right h, Nat.min_eq_right (Nat.le_trans h (by decide))]
theorem far_xI {l r : List Nat} {wh : Nat} (h1 : wh ≤ 1000000000) (h2 : l.length ≤ 1000000000) : readF l (wh + xI FAR r) = readF l (wh + xI FAR4 r) := by
 have h := far_law l wh (xV r) (decide (r.getD 1 0 = 45)) h1 h2
 unfold xI
 simpa only [decide_eq_true_eq] using h
theorem xI_le {cap : Nat} (r : List Nat) : -(cap : Int) ≤ xI cap r ∧ xI cap r ≤ cap := by
 unfold xI
 have := Nat.min_le_left cap (xV r)
 split <;> omega
theorem cap_step {cap v x : Nat} (hc : 0 < cap) : min cap (10 * min cap v + x) = min cap (v * 10 + x) := by omega
end Go.Proofs.YtlgencbldbpbdaaGreatDoor
