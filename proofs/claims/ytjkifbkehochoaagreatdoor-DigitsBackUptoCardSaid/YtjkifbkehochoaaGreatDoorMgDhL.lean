/- digits.run, galleyref03.Digits, both Nearest. galleyref03.Digits, both Nearest, Same. What a text begins with as a figure. Plain laws. galleyref03.run. galleyref03.exponent. galleyref03.Figure. The walk of DigitsNears, awake left open. -/
import Derived.Test.YtjkifbkehochoaaGreatDoorMgDhK
import Derived.Test.YtjkifbkehochoaaGreatDoorMgQV
import Derived.Deep.DeepCutAuto
import Derived.Deep.RegionHeld3
namespace Go.Proofs.YtjkifbkehochoaaGreatDoor
open Go.RowKit Fl
/-- how many digits stand ahead -/
def runD : List Nat → Nat
  | [] => 0
  | x :: l => if 48 ≤ x ∧ x ≤ 57 then runD l + 1 else 0
theorem runD_le : ∀ l, runD l ≤ l.length
  | [] => Nat.le_refl _
  | x :: l => by
    rw [runD, List.length_cons]
    have := runD_le l
    split <;> omega
theorem runD_step {l : List Nat} {k x : Nat} (h : l[k]? = some x) : runD (l.drop k) = if 48 ≤ x ∧ x ≤ 57 then runD (l.drop (k + 1)) + 1 else 0 := by
  have hk : k < l.length := (List.getElem?_eq_some_iff.1 h).1
  have e : l[k] = x := (List.getElem?_eq_some_iff.1 h).2
  rw [List.drop_eq_getElem_cons hk, runD, e]
theorem runD_all : ∀ {l : List Nat}, runD l = l.length → DG l
  | [], _ => fun x hx => (nomatch hx)
  | x :: l, h => by
    rw [runD, List.length_cons] at h
    by_cases hx : 48 ≤ x ∧ x ≤ 57
    · rw [if_pos hx] at h
      intro y hy
      rcases List.mem_cons.1 hy with rfl | hy
      · exact hx
      · exact runD_all (by omega) y hy
    · rw [if_neg hx] at h; omega
def digB (x : Nat) : Bool := decide (48 ≤ x ∧ x ≤ 57)
set_option maxRecDepth 100000 in
set_option maxHeartbeats 1000000 in
theorem c52 (x : Nat) (w : World) : Calls Tryz.prog 52 #[.int .u8 x] w fun e w' => e = .returned (.bool (digB x)) ∧ w = w' := by
  by_cases h1 : 48 ≤ x
  · have i1 : (48 : Int) ≤ (x : Int) := by omega
    by_cases h2 : x ≤ 57
    · have i2 : (x : Int) ≤ 57 := by omega
      have E := Lib.hid (show digB x = true from decide_eq_true ⟨h1, h2⟩)
      clear h1 h2
      go_enter Tryz.func52, Tryz.ntmps52
      go_wp2
      go_ret
      exact ⟨by rw [E.out]; rfl, rfl⟩
    · have i2 : ¬ (x : Int) ≤ 57 := by omega
      have E := Lib.hid (show digB x = false from decide_eq_false (fun h => h2 h.2))
      clear h1 h2
      go_enter Tryz.func52, Tryz.ntmps52
      go_wp2
      go_ret
      exact ⟨by rw [E.out]; rfl, rfl⟩
  · have i1 : ¬ (48 : Int) ≤ (x : Int) := by omega
    have E := Lib.hid (show digB x = false from decide_eq_false (fun h => h1 h.1))
    clear h1
    go_enter Tryz.func52, Tryz.ntmps52
    go_wp2
    go_ret
    exact ⟨by rw [E.out]; rfl, rfl⟩
set_option maxRecDepth 100000 in
set_option maxHeartbeats 1000000 in
/-- digits.run -/
theorem lRun (s : ByteArray) (a : Nat) (w : World) (hs : s.size ≤ 562949953421312) (ha : a ≤ s.size) :
    Calls Tryz.prog 27 #[.string s, .int .i64 a] w fun e w' => e = .returned (.int .i64 (runD ((bl s).drop a) : Nat)) ∧ w = w' := by
  have HS := Lib.hid (And.intro hs ha)
  have s1 : (s.size : Int) ≤ 562949953421312 := by omega
  obtain ⟨R, hR⟩ : ∃ R, R = runD ((bl s).drop a) := ⟨_, rfl⟩
  rw [← hR]
  have HR := Lib.hid hR
  have LB := Lib.hid (bl_len s)
  have a1 : (a : Int) ≤ 562949953421312 := by omega
  clear hs ha hR
  go_enter Tryz.func27, Tryz.ntmps27
  go_wp2_with fail
  go_loopw [5] (fun i wx => ∃ k : Nat, i = .int .i64 k ∧ Hid (a ≤ k ∧ k ≤ s.size ∧ a + R = k + runD ((bl s).drop k)) ∧ wx = w) (fun i _ => s.size - (intOf i).toNat)
  case atStart => exact ⟨a, rfl, Lib.hid ⟨Nat.le_refl _, HS.out.2, by rw [HR.out]⟩, rfl⟩
  case round =>
    obtain ⟨k, rfl, hI, rfl⟩ := hrel
    have k1 : (k : Int) ≤ 562949953421312 := by have := hI.out; have := HS.out; omega
    by_cases hlt : k < s.size
    · have hki : (k : Int) < (s.size : Int) := by omega
      have hx := bl_get s k hlt
      have hst := runD_step hx
      have C52 := Lib.hid (fun w => c52 (s[k]).toNat w)
      by_cases hd : 48 ≤ (s[k]).toNat ∧ (s[k]).toNat ≤ 57
      · rw [if_pos hd] at hst
        have D : Hid (digB (s[k]).toNat = true) := Lib.hid (decide_eq_true hd)
        rw [D.out] at C52
        have E : Hid (a ≤ k + 1 ∧ k + 1 ≤ s.size ∧ a + R = k + 1 + runD ((bl s).drop (k + 1))) := Lib.hid ⟨by have := hI.out.1; omega, hlt, by have := hI.out.2.2; omega⟩
        clear hx hst hd D
        go_wp2_with (go_at_call 52; refine (C52.out _).mono ?_; rintro e w' ⟨rfl, rfl⟩)
        go_roundw
        case rel => exact ⟨k + 1, by go_num, E, trivial⟩
        case measure => simp [intOf]; omega
      · rw [if_neg hd] at hst
        have D : Hid (digB (s[k]).toNat = false) := Lib.hid (decide_eq_false hd)
        rw [D.out] at C52
        have E : Hid ((k : Int) - (a : Int) = (R : Int)) := Lib.hid (by have := hI.out; omega)
        clear hx hst hd D
        go_wp2_with (go_at_call 52; refine (C52.out _).mono ?_; rintro e w' ⟨rfl, rfl⟩)
        go_ret
        exact ⟨by rw [← E.out]; rfl, rfl⟩
    · have hki : ¬ (k : Int) < (s.size : Int) := by omega
      have E : Hid ((k : Int) - (a : Int) = (R : Int)) := Lib.hid (by
        have h1 := hI.out
        have : (bl s).drop k = [] := List.drop_eq_nil_of_le (by rw [LB.out]; omega)
        rw [this] at h1
        have : runD [] = 0 := rfl
        omega)
      clear hlt
      go_wp2_with fail
      go_ret
      exact ⟨by rw [← E.out]; rfl, rfl⟩
end Go.Proofs.YtjkifbkehochoaaGreatDoor

namespace Go.Proofs.YtjkifbkehochoaaGreatDoor
open Go.RowKit Fl
def okD (l : List Nat) : Bool := decide (l ≠ [] ∧ runD l = l.length)
/-- the number as which digits at a point are read, as a word -/
def nrW (l : List Nat) (p : Int) : Nat := if okD l = true then readF l p else 0
def nrK (l : List Nat) : Nat := if okD l = true then 0 else 1
theorem readF_le (l : List Nat) (p : Int) : readF l p ≤ INF := by
  unfold readF
  split
  · exact Nat.zero_le INF
  · split
    · exact Nat.le_refl INF
    · split
      · exact Nat.zero_le INF
      · unfold numF; exact Nat.min_le_right _ _
theorem okD_true {l : List Nat} (h : okD l = true) : l ≠ [] ∧ runD l = l.length := of_decide_eq_true h
theorem okD_false {l : List Nat} (h : okD l = false) : ¬ (l ≠ [] ∧ runD l = l.length) := of_decide_eq_false h
set_option maxRecDepth 100000 in
set_option maxHeartbeats 1000000 in
/-- digits.Nearest -/
theorem lNear (s : ByteArray) (point : Int) (w : World) (hs : s.size ≤ 562949953421312) (hp : -9223372036854775808 ≤ point ∧ point ≤ 9223372036854775807) :
    Calls Tryz.prog 19 #[.string s, .int .i64 point] w fun e w' => e = .returned (.tuple #[.float .f64 (nrW (bl s) point), .int .i64 (nrK (bl s) : Nat)]) ∧ Below w.heap.size w w' := by
  have LB := Lib.hid (bl_len s)
  have s1 : (s.size : Int) ≤ 562949953421312 := by omega
  have C27 := Lib.hid (fun w => lRun s 0 w hs (Nat.zero_le _))
  rw [List.drop_zero] at C27
  obtain ⟨A, hA⟩ : ∃ A, A = nrW (bl s) point := ⟨_, rfl⟩
  obtain ⟨B, hB⟩ : ∃ B, B = nrK (bl s) := ⟨_, rfl⟩
  rw [← hA, ← hB]
  unfold nrW at hA
  unfold nrK at hB
  cases hk : okD (bl s)
  · rw [hk, if_neg (by decide)] at hA hB
    have hn := okD_false hk
    have AB := Lib.hid (And.intro hA hB)
    by_cases h0 : 0 < s.size
    · obtain ⟨e1, e2⟩ := full_bl h0
      have hne : ¬ (runD (bl s) : Int) = (s.size : Int) := fun h => hn ⟨fun e => by have := LB.out; rw [e] at this; simp at this; omega, by have := LB.out; omega⟩
      clear hA hB hs hp hk hn h0
      generalize runD (bl s) = r at *
      go_enter Tryz.func19, Tryz.ntmps19
      go_wp2_with (go_at_call 27; refine (C27.out _).mono ?_; rintro e w' ⟨rfl, rfl⟩)
      go_ret2
      exact ⟨by rw [AB.out.1, AB.out.2]; rfl, Below.refl _ _⟩
    · obtain ⟨e1, e2, -⟩ := empty_bl (s := s) (by omega)
      clear hA hB hs hp hk hn h0 C27
      go_enter Tryz.func19, Tryz.ntmps19
      go_wp2
      go_ret2
      exact ⟨by rw [AB.out.1, AB.out.2]; rfl, Below.refl _ _⟩
  · rw [hk, if_pos rfl] at hA hB
    have hn := okD_true hk
    have AB := Lib.hid hB
    have h0 : 0 < s.size := by have := LB.out; have := List.length_pos_iff.2 hn.1; omega
    obtain ⟨e1, e2⟩ := full_bl h0
    have C28 := Lib.hid (fun w => lRead s point w (runD_all hn.2) hs hp)
    rw [← hA] at C28
    have er : runD (bl s) = s.size := by have := LB.out; omega
    rw [er] at C27
    clear hA hB hs hp hk hn h0 er
    go_enter Tryz.func19, Tryz.ntmps19
    go_wp2_with (first
      | (go_at_call 27; refine (C27.out _).mono ?_; rintro e w' ⟨rfl, rfl⟩)
      | (go_at_call 28; refine (C28.out _).mono ?_; rintro e w1 ⟨rfl, hb⟩; have I := Lib.hid hb; clear hb))
    go_ret2
    exact ⟨by rw [AB.out]; rfl, I.out⟩
end Go.Proofs.YtjkifbkehochoaaGreatDoor

namespace Go.Proofs.YtjkifbkehochoaaGreatDoor
open Fl
def fAt (l : List Nat) : Nat := if l.getD 0 0 = 43 ∨ l.getD 0 0 = 45 then 1 else 0
def fWh (l : List Nat) : Nat := runD (l.drop (fAt l))
def fFr (l : List Nat) : Nat := if l.getD (fAt l + fWh l) 0 = 46 then runD (l.drop (fAt l + fWh l + 1)) else 0
def fDg (l : List Nat) : List Nat := (l.drop (fAt l)).take (fWh l) ++ (l.drop (fAt l + fWh l + 1)).take (fFr l)
def fTo (l : List Nat) : Nat := if l.getD (fAt l + fWh l) 0 = 46 ∧ fWh l + fFr l ≠ 0 then fAt l + fWh l + 1 + fFr l else fAt l + fWh l
def xAt (r : List Nat) : Nat := if r.getD 1 0 = 43 ∨ r.getD 1 0 = 45 then 2 else 1
def xN (r : List Nat) : Nat := if r.getD 0 0 = 101 ∨ r.getD 0 0 = 69 then runD (r.drop (xAt r)) else 0
def xV (r : List Nat) : Nat := dval ((r.drop (xAt r)).take (xN r))
def xI (cap : Nat) (r : List Nat) : Int := if r.getD 1 0 = 45 then -(min cap (xV r) : Nat) else (min cap (xV r) : Nat)
def xSz (r : List Nat) : Nat := if xN r = 0 then 0 else xAt r + xN r
def FAR : Nat := 1099511627776
/-- the word, the bytes, the fault of what a text begins with -/
def pW (l : List Nat) : Nat := if fDg l = [] then 0 else readF (fDg l) (fWh l + xI FAR (l.drop (fTo l))) + (if l.getD 0 0 = 45 then 9223372036854775808 else 0)
def pN (l : List Nat) : Nat := if fDg l = [] then 0 else fTo l + xSz (l.drop (fTo l))
def pErr (l : List Nat) : Nat := if fDg l = [] then 31 else 0
theorem runD_dg : ∀ l : List Nat, DG (l.take (runD l))
  | [] => fun x hx => by simp at hx
  | y :: l => by
    rw [runD]
    by_cases h : 48 ≤ y ∧ y ≤ 57
    · rw [if_pos h, List.take_succ_cons]
      intro x hx
      rcases List.mem_cons.1 hx with rfl | hx
      · exact h
      · exact runD_dg l x hx
    · rw [if_neg h, List.take_zero]
      exact fun x hx => nomatch hx
theorem runD_take_len (l : List Nat) : (l.take (runD l)).length = runD l := by rw [List.length_take, Nat.min_eq_left (runD_le l)]
theorem fFr_zero {l : List Nat} (h : l.getD (fAt l + fWh l) 0 ≠ 46) : fFr l = 0 := by unfold fFr; rw [if_neg h]
theorem fDg_len (l : List Nat) : (fDg l).length = fWh l + fFr l := by
  unfold fDg
  rw [List.length_append]
  have h1 : ((l.drop (fAt l)).take (fWh l)).length = fWh l := runD_take_len _
  have h2 : ((l.drop (fAt l + fWh l + 1)).take (fFr l)).length = fFr l := by
    unfold fFr
    split
    · exact runD_take_len _
    · rfl
  rw [h1, h2]
theorem fDg_dg (l : List Nat) : DG (fDg l) := by
  unfold fDg
  intro x hx
  rcases List.mem_append.1 hx with hx | hx
  · exact runD_dg _ x hx
  · unfold fFr at hx
    split at hx
    · exact runD_dg _ x hx
    · simp at hx
theorem fAt_le (l : List Nat) : fAt l ≤ l.length := by
  unfold fAt
  split
  · rename_i h
    cases l with
    | nil => simp at h
    | cons x l => rw [List.length_cons]; omega
  · exact Nat.zero_le _
theorem fWh_le (l : List Nat) : fAt l + fWh l ≤ l.length := by
  have h1 := runD_le (l.drop (fAt l))
  have h2 := fAt_le l
  rw [List.length_drop] at h1
  unfold fWh
  omega
theorem fFr_le {l : List Nat} (h : l.getD (fAt l + fWh l) 0 = 46) : fAt l + fWh l + 1 + fFr l ≤ l.length := by
  have h1 := runD_le (l.drop (fAt l + fWh l + 1))
  have h3 : fAt l + fWh l < l.length := by
    rcases Nat.lt_or_ge (fAt l + fWh l) l.length with h4 | h4
    · exact h4
    · rw [List.getD, List.getElem?_eq_none h4] at h; cases h
  rw [List.length_drop] at h1
  unfold fFr
  rw [if_pos h]
  omega
theorem fTo_le (l : List Nat) : fTo l ≤ l.length := by
  unfold fTo
  split
  · rename_i h
    exact fFr_le h.1
  · exact fWh_le l
theorem fDg_le (l : List Nat) : (fDg l).length ≤ l.length := by
  rw [fDg_len]
  by_cases h : l.getD (fAt l + fWh l) 0 = 46
  · have := fFr_le h; omega
  · rw [fFr_zero h]; have := fWh_le l; omega
theorem xI_le {cap : Nat} (r : List Nat) : -(cap : Int) ≤ xI cap r ∧ xI cap r ≤ cap := by
  unfold xI
  have := Nat.min_le_left cap (xV r)
  split <;> omega
/-- a round of what is at most so much -/
theorem cap_step {cap v x : Nat} (hc : 0 < cap) : min cap (10 * min cap v + x) = min cap (v * 10 + x) := by omega
end Go.Proofs.YtjkifbkehochoaaGreatDoor

namespace Go.Proofs.YtjkifbkehochoaaGreatDoor
open Go.RowKit Fl
end Go.Proofs.YtjkifbkehochoaaGreatDoor

namespace Go.Proofs.YtjkifbkehochoaaGreatDoor
open Go.RowKit Fl
theorem xI_zero {cap : Nat} {r : List Nat} (h : xN r = 0) : xI cap r = 0 := by
  have : xV r = 0 := by unfold xV; rw [h, List.take_zero]; rfl
  unfold xI
  rw [this, Nat.min_zero]
  split <;> rfl
theorem getD_none {l : List Nat} {k : Nat} (h : l.length ≤ k) : l.getD k 0 = 0 := by rw [List.getD, List.getElem?_eq_none h]; rfl
theorem cap_int {cap : Nat} (hc : 0 < cap) (v d : Nat) : min (cap : Int) (10 * ((min cap v : Nat) : Int) + (d : Int)) = ((min cap (v * 10 + d) : Nat) : Int) := by
  have := cap_step (x := d) (v := v) hc
  omega
end Go.Proofs.YtjkifbkehochoaaGreatDoor

namespace Go.Proofs.YtjkifbkehochoaaGreatDoor
open Go.RowKit Fl
theorem bl_slice (s : ByteArray) (a b : Nat) (h : a ≤ b) : bl (s.extract a b) = ((bl s).drop a).take (b - a) := by
  rw [bl_extract, List.drop_take]
end Go.Proofs.YtjkifbkehochoaaGreatDoor

namespace Go.Proofs.YtjkifbkehochoaaGreatDoor
open Go.RowKit Fl
/-- a row of values in memory -/
def VR (w : World) (A : Option Addr) (l : List Value) : Prop := l = [] ∨ ∃ b o, A = some ⟨b, o, none⟩ ∧ b < w.heap.size ∧ ∀ j x, l[j]? = some x → w.cell? ⟨b, o + j, none⟩ = some x
theorem VR.below {w w' : World} {A : Option Addr} {l : List Value} (h : VR w A l) (hb : Below w.heap.size w w') : VR w' A l := by
  rcases h with h | ⟨b, o, h1, h2, h3⟩
  · exact .inl h
  · exact .inr ⟨b, o, h1, Nat.lt_of_lt_of_le h2 hb.size, fun j x hj => (hb.cell (p := ⟨b, o + j, none⟩) h2).trans (h3 j x hj)⟩
theorem VR.at {w : World} {A : Option Addr} {l : List Value} (h : VR w A l) {k : Nat} {x : Value} (hk : l[k]? = some x) : ∃ b o, A = some ⟨b, o, none⟩ ∧ b < w.heap.size ∧ w.cell? ⟨b, o + k, none⟩ = some x := by
  rcases h with h | ⟨b, o, h1, h2, h3⟩
  · rw [h] at hk; cases hk
  · exact ⟨b, o, h1, h2, h3 k x hk⟩
end Go.Proofs.YtjkifbkehochoaaGreatDoor
