/- digits.run, galleyref03.Digits, both Nearest. galleyref03.Digits, both Nearest, Same. The walk of DigitsNears, awake left open. -/
import Derived.Test.YtjkifbkehochoaaGreatDoorMgDhK
import Derived.Test.YtjkifbkehochoaaGreatDoorQX
import Derived.Deep.RegionHeld3
namespace Go.Proofs.YtjkifbkehochoaaGreatDoor
open Go.RowKit Fl

/-- how many digits stand ahead -/
def runD : List Nat → Nat
  | [] => 0
  | x :: l => if 48 ≤ x ∧ x ≤ 57 then runD l + 1 else 0
theorem runD_le : ∀ l, runD l ≤ l.length
  | [] => Nat.le_refl _
  | x :: l => by
    rw [runD, List.length_cons]
    have := runD_le l
    split <;> omega
theorem runD_step {l : List Nat} {k x : Nat} (h : l[k]? = some x) : runD (l.drop k) = if 48 ≤ x ∧ x ≤ 57 then runD (l.drop (k + 1)) + 1 else 0 := by
  have hk : k < l.length := (List.getElem?_eq_some_iff.1 h).1
  have e : l[k] = x := (List.getElem?_eq_some_iff.1 h).2
  rw [List.drop_eq_getElem_cons hk, runD, e]
theorem runD_all : ∀ {l : List Nat}, runD l = l.length → DG l
  | [], _ => fun x hx => (nomatch hx)
  | x :: l, h => by
    rw [runD, List.length_cons] at h
    by_cases hx : 48 ≤ x ∧ x ≤ 57
    · rw [if_pos hx] at h
      intro y hy
      rcases List.mem_cons.1 hy with rfl | hy
      · exact hx
      · exact runD_all (by omega) y hy
    · rw [if_neg hx] at h; omega
def nearF (l : List Nat) (p : Int) : Nat × Nat := if l ≠ [] ∧ runD l = l.length then (readF l p, 0) else (0, 1)
def digB (x : Nat) : Bool := decide (48 ≤ x ∧ x ≤ 57)
set_option maxRecDepth 100000 in
set_option maxHeartbeats 1000000 in
theorem c52 (x : Nat) (w : World) : Calls Tryz.prog 52 #[.int .u8 x] w fun e w' => e = .returned (.bool (digB x)) ∧ w = w' := by
  by_cases h1 : 48 ≤ x
  · have i1 : (48 : Int) ≤ (x : Int) := by omega
    by_cases h2 : x ≤ 57
    · have i2 : (x : Int) ≤ 57 := by omega
      have E := Lib.hid (show digB x = true from decide_eq_true ⟨h1, h2⟩)
      clear h1 h2
      go_enter Tryz.func52, Tryz.ntmps52
      go_wp2
      go_ret
      exact ⟨by rw [E.out]; rfl, rfl⟩
    · have i2 : ¬ (x : Int) ≤ 57 := by omega
      have E := Lib.hid (show digB x = false from decide_eq_false (fun h => h2 h.2))
      clear h1 h2
      go_enter Tryz.func52, Tryz.ntmps52
      go_wp2
      go_ret
      exact ⟨by rw [E.out]; rfl, rfl⟩
  · have i1 : ¬ (48 : Int) ≤ (x : Int) := by omega
    have E := Lib.hid (show digB x = false from decide_eq_false (fun h => h1 h.1))
    clear h1
    go_enter Tryz.func52, Tryz.ntmps52
    go_wp2
    go_ret
    exact ⟨by rw [E.out]; rfl, rfl⟩
set_option maxRecDepth 100000 in
set_option maxHeartbeats 1000000 in
/-- digits.run -/
theorem lRun (s : ByteArray) (a : Nat) (w : World) (hs : s.size ≤ 1000000000) (ha : a ≤ s.size) :
    Calls Tryz.prog 27 #[.string s, .int .i64 a] w fun e w' => e = .returned (.int .i64 (runD ((bl s).drop a) : Nat)) ∧ w = w' := by
  have HS := Lib.hid (And.intro hs ha)
  have s1 : (s.size : Int) ≤ 1000000000 := by omega
  obtain ⟨R, hR⟩ : ∃ R, R = runD ((bl s).drop a) := ⟨_, rfl⟩
  rw [← hR]
  have HR := Lib.hid hR
  have LB := Lib.hid (bl_len s)
  have a1 : (a : Int) ≤ 1000000000 := by omega
  clear hs ha hR
  go_enter Tryz.func27, Tryz.ntmps27
  go_wp2_with fail
  go_loopw [5] (fun i wx => ∃ k : Nat, i = .int .i64 k ∧ Hid (a ≤ k ∧ k ≤ s.size ∧ a + R = k + runD ((bl s).drop k)) ∧ wx = w) (fun i _ => s.size - (intOf i).toNat)
  case atStart => exact ⟨a, rfl, Lib.hid ⟨Nat.le_refl _, HS.out.2, by rw [HR.out]⟩, rfl⟩
  case round =>
    obtain ⟨k, rfl, hI, rfl⟩ := hrel
    have k1 : (k : Int) ≤ 1000000000 := by have := hI.out; have := HS.out; omega
    by_cases hlt : k < s.size
    · have hki : (k : Int) < (s.size : Int) := by omega
      have hx := bl_get s k hlt
      have hst := runD_step hx
      have C52 := Lib.hid (fun w => c52 (s[k]).toNat w)
      by_cases hd : 48 ≤ (s[k]).toNat ∧ (s[k]).toNat ≤ 57
      · rw [if_pos hd] at hst
        have D : Hid (digB (s[k]).toNat = true) := Lib.hid (decide_eq_true hd)
        rw [D.out] at C52
        have E : Hid (a ≤ k + 1 ∧ k + 1 ≤ s.size ∧ a + R = k + 1 + runD ((bl s).drop (k + 1))) := Lib.hid ⟨by have := hI.out.1; omega, hlt, by have := hI.out.2.2; omega⟩
        clear hx hst hd D
        go_wp2_with (go_at_call 52; refine (C52.out _).mono ?_; rintro e w' ⟨rfl, rfl⟩)
        go_roundw
        case rel => exact ⟨k + 1, by go_num, E, trivial⟩
        case measure => simp [intOf]; omega
      · rw [if_neg hd] at hst
        have D : Hid (digB (s[k]).toNat = false) := Lib.hid (decide_eq_false hd)
        rw [D.out] at C52
        have E : Hid ((k : Int) - (a : Int) = (R : Int)) := Lib.hid (by have := hI.out; omega)
        clear hx hst hd D
        go_wp2_with (go_at_call 52; refine (C52.out _).mono ?_; rintro e w' ⟨rfl, rfl⟩)
        go_ret
        exact ⟨by rw [← E.out]; rfl, rfl⟩
    · have hki : ¬ (k : Int) < (s.size : Int) := by omega
      have E : Hid ((k : Int) - (a : Int) = (R : Int)) := Lib.hid (by
        have h1 := hI.out
        have : (bl s).drop k = [] := List.drop_eq_nil_of_le (by rw [LB.out]; omega)
        rw [this] at h1
        have : runD [] = 0 := rfl
        omega)
      clear hlt
      go_wp2_with fail
      go_ret
      exact ⟨by rw [← E.out]; rfl, rfl⟩
end Go.Proofs.YtjkifbkehochoaaGreatDoor

namespace Go.Proofs.YtjkifbkehochoaaGreatDoor
open Go.RowKit Fl

def okD (l : List Nat) : Bool := decide (l ≠ [] ∧ runD l = l.length)
set_option maxRecDepth 100000 in
set_option maxHeartbeats 1000000 in
theorem rDigits (s : ByteArray) (w : World) (hs : s.size ≤ 1000000000) :
    Calls Tryz.prog 24 #[.string s] w fun e w' => e = .returned (.bool (okD (bl s))) ∧ w = w' := by
  have s1 : (s.size : Int) ≤ 1000000000 := by omega
  obtain ⟨R, hR⟩ : ∃ R, R = okD (bl s) := ⟨_, rfl⟩
  rw [← hR]
  have HR := Lib.hid hR
  have LB := Lib.hid (bl_len s)
  clear hs hR
  go_enter Tryz.func24, Tryz.ntmps24
  go_wp2_with fail
  go_loopw [3] (fun i wx => ∃ k : Nat, i = .int .i64 k ∧ Hid (k ≤ s.size ∧ runD (bl s) = k + runD ((bl s).drop k)) ∧ wx = w) (fun i _ => s.size - (intOf i).toNat)
  case atStart => exact ⟨0, rfl, Lib.hid ⟨Nat.zero_le _, by rw [List.drop_zero, Nat.zero_add]⟩, rfl⟩
  case round =>
    obtain ⟨k, rfl, hI, rfl⟩ := hrel
    have k1 : (k : Int) ≤ 1000000000 := by have := hI.out; omega
    by_cases hlt : k < s.size
    · have hki : (k : Int) < (s.size : Int) := by omega
      have hx := bl_get s k hlt
      have hst := runD_step hx
      by_cases hd : 48 ≤ (s[k]).toNat ∧ (s[k]).toNat ≤ 57
      · rw [if_pos hd] at hst
        have E : Hid (k + 1 ≤ s.size ∧ runD (bl s) = k + 1 + runD ((bl s).drop (k + 1))) := Lib.hid ⟨hlt, by have := hI.out.2; omega⟩
        have d1 : ¬ ((s[k]).toNat : Int) < 48 := by omega
        have d2 : ¬ (57 : Int) < ((s[k]).toNat : Int) := by omega
        clear hx hst hd
        go_wp2_with fail
        go_roundw
        case rel => exact ⟨k + 1, by go_num, E, trivial⟩
        case measure => simp [intOf]; omega
      · rw [if_neg hd] at hst
        have E : Hid (R = false) := Lib.hid (by
          rw [HR.out]; unfold okD
          exact decide_eq_false (fun h => by have := hI.out.2; have := h.2; have := LB.out; omega))
        clear hx hst
        by_cases d1 : ((s[k]).toNat : Int) < 48
        · clear hd
          go_wp2_with fail
          go_ret
          exact ⟨by rw [E.out]; rfl, rfl⟩
        · have d2 : (57 : Int) < ((s[k]).toNat : Int) := by omega
          clear hd
          go_wp2_with fail
          go_ret
          exact ⟨by rw [E.out]; rfl, rfl⟩
    · have hki : ¬ (k : Int) < (s.size : Int) := by omega
      have hk : k = s.size := by have := hI.out.1; omega
      have E : Hid (decide (0 < s.size) = R) := Lib.hid (by
        rw [HR.out]; unfold okD
        have h1 := hI.out.2
        have h2 : (bl s).drop k = [] := List.drop_eq_nil_of_le (by rw [LB.out]; omega)
        rw [h2] at h1
        have h3 : runD [] = 0 := rfl
        congr 1
        refine propext ⟨fun h => ⟨fun e => ?_, by have := LB.out; omega⟩, fun h => ?_⟩
        · have := LB.out; rw [e] at this; simp at this; omega
        · have := LB.out; have := List.length_pos_iff.2 h.1; omega)
      clear hlt hk
      go_wp2_with fail
      go_ret
      exact ⟨by rw [← E.out]; rfl, rfl⟩
set_option maxRecDepth 100000 in
set_option maxHeartbeats 1000000 in
/-- galleyref03.Same of one word -/
theorem rSame (x : Nat) (w : World) (hx : x ≤ INF) : Calls Tryz.prog 14 #[.float .f64 x, .float .f64 x] w fun e w' => e = .returned (.bool true) ∧ w = w' := by
  have hu : U x := by unfold U; unfold INF at hx; omega
  go_enter Tryz.func14, Tryz.ntmps14
  go_wp2
  go_ret
  exact ⟨rfl, rfl⟩
/-- the number as which digits at a point are read, as a word -/
def nrW (l : List Nat) (p : Int) : Nat := if okD l = true then readF l p else 0
def nrK (l : List Nat) : Nat := if okD l = true then 0 else 1
theorem readF_le (l : List Nat) (p : Int) : readF l p ≤ INF := by
  unfold readF
  split
  · exact Nat.zero_le INF
  · split
    · exact Nat.le_refl INF
    · split
      · exact Nat.zero_le INF
      · unfold numF; exact Nat.min_le_right _ _
theorem nrW_le (l : List Nat) (p : Int) : nrW l p ≤ INF := by
  unfold nrW
  split
  · exact readF_le l p
  · exact Nat.zero_le _
theorem okD_true {l : List Nat} (h : okD l = true) : l ≠ [] ∧ runD l = l.length := of_decide_eq_true h
theorem okD_false {l : List Nat} (h : okD l = false) : ¬ (l ≠ [] ∧ runD l = l.length) := of_decide_eq_false h
set_option maxRecDepth 100000 in
set_option maxHeartbeats 1000000 in
/-- digits.Nearest -/
theorem lNear (s : ByteArray) (point : Int) (w : World) (hs : s.size ≤ 1000000000) (hp : -9223372036854775808 ≤ point ∧ point ≤ 9223372036854775807) :
    Calls Tryz.prog 19 #[.string s, .int .i64 point] w fun e w' => e = .returned (.tuple #[.float .f64 (nrW (bl s) point), .int .i64 (nrK (bl s) : Nat)]) ∧ Below w.heap.size w w' := by
  have LB := Lib.hid (bl_len s)
  have s1 : (s.size : Int) ≤ 1000000000 := by omega
  have C27 := Lib.hid (fun w => lRun s 0 w hs (Nat.zero_le _))
  rw [List.drop_zero] at C27
  obtain ⟨A, hA⟩ : ∃ A, A = nrW (bl s) point := ⟨_, rfl⟩
  obtain ⟨B, hB⟩ : ∃ B, B = nrK (bl s) := ⟨_, rfl⟩
  rw [← hA, ← hB]
  unfold nrW at hA
  unfold nrK at hB
  cases hk : okD (bl s)
  · rw [hk, if_neg (by decide)] at hA hB
    have hn := okD_false hk
    have AB := Lib.hid (And.intro hA hB)
    by_cases h0 : 0 < s.size
    · obtain ⟨e1, e2⟩ := full_bl h0
      have hne : ¬ (runD (bl s) : Int) = (s.size : Int) := fun h => hn ⟨fun e => by have := LB.out; rw [e] at this; simp at this; omega, by have := LB.out; omega⟩
      clear hA hB hs hp hk hn h0
      generalize runD (bl s) = r at *
      go_enter Tryz.func19, Tryz.ntmps19
      go_wp2_with (go_at_call 27; refine (C27.out _).mono ?_; rintro e w' ⟨rfl, rfl⟩)
      go_ret2
      exact ⟨by rw [AB.out.1, AB.out.2]; rfl, Below.refl _ _⟩
    · obtain ⟨e1, e2, -⟩ := empty_bl (s := s) (by omega)
      clear hA hB hs hp hk hn h0 C27
      go_enter Tryz.func19, Tryz.ntmps19
      go_wp2
      go_ret2
      exact ⟨by rw [AB.out.1, AB.out.2]; rfl, Below.refl _ _⟩
  · rw [hk, if_pos rfl] at hA hB
    have hn := okD_true hk
    have AB := Lib.hid hB
    have h0 : 0 < s.size := by have := LB.out; have := List.length_pos_iff.2 hn.1; omega
    obtain ⟨e1, e2⟩ := full_bl h0
    have C28 := Lib.hid (fun w => lRead s point w (runD_all hn.2) hs hp)
    rw [← hA] at C28
    have er : runD (bl s) = s.size := by have := LB.out; omega
    rw [er] at C27
    clear hA hB hs hp hk hn h0 er
    go_enter Tryz.func19, Tryz.ntmps19
    go_wp2_with (first
      | (go_at_call 27; refine (C27.out _).mono ?_; rintro e w' ⟨rfl, rfl⟩)
      | (go_at_call 28; refine (C28.out _).mono ?_; rintro e w1 ⟨rfl, hb⟩; have I := Lib.hid hb; clear hb))
    go_ret2
    exact ⟨by rw [AB.out]; rfl, I.out⟩
set_option maxRecDepth 100000 in
set_option maxHeartbeats 1000000 in
/-- galleyref03.Nearest -/
theorem rNear (s : ByteArray) (point : Int) (w : World) (hs : s.size ≤ 1000000000) (hp : -9223372036854775808 ≤ point ∧ point ≤ 9223372036854775807) :
    Calls Tryz.prog 20 #[.string s, .int .i64 point] w fun e w' => e = .returned (.tuple #[.float .f64 (nrW (bl s) point), .int .i64 (nrK (bl s) : Nat)]) ∧ Below w.heap.size w w' := by
  have C24 := Lib.hid (fun w => rDigits s w hs)
  obtain ⟨A, hA⟩ : ∃ A, A = nrW (bl s) point := ⟨_, rfl⟩
  obtain ⟨B, hB⟩ : ∃ B, B = nrK (bl s) := ⟨_, rfl⟩
  have hle : A ≤ INF := by rw [hA]; exact nrW_le _ _
  rw [← hA, ← hB]
  unfold nrW at hA
  unfold nrK at hB
  cases hk : okD (bl s)
  · rw [hk, if_neg (by decide)] at hA hB
    rw [hk] at C24
    have AB := Lib.hid (And.intro hA hB)
    clear hA hB hs hp hk
    go_enter Tryz.func20, Tryz.ntmps20
    go_wp2_with (go_at_call 24; refine (C24.out _).mono ?_; rintro e w' ⟨rfl, rfl⟩)
    go_ret2
    exact ⟨by rw [AB.out.1, AB.out.2]; rfl, Below.refl _ _⟩
  · rw [hk, if_pos rfl] at hA hB
    rw [hk] at C24
    have hn := okD_true hk
    have AB := Lib.hid hB
    have C33 := Lib.hid (fun w => R.cRead s point w (runD_all hn.2) hs hp)
    rw [← hA] at C33
    have hu : U A := by unfold U; unfold INF at hle; omega
    clear hA hB hs hp hk hn
    go_enter Tryz.func20, Tryz.ntmps20
    go_wp2_with (first
      | (go_at_call 24; refine (C24.out _).mono ?_; rintro e w' ⟨rfl, rfl⟩)
      | (go_at_call 33; refine (C33.out _).mono ?_; rintro e w1 ⟨rfl, hb⟩; have I := Lib.hid hb; clear hb))
    go_ret2
    exact ⟨by rw [AB.out]; rfl, I.out⟩
end Go.Proofs.YtjkifbkehochoaaGreatDoor

namespace Go.Proofs.YtjkifbkehochoaaGreatDoor
open Go.RowKit Fl

/-- a row of values in memory -/
def VR (w : World) (A : Option Addr) (l : List Value) : Prop := l = [] ∨ ∃ b o, A = some ⟨b, o, none⟩ ∧ b < w.heap.size ∧ ∀ j x, l[j]? = some x → w.cell? ⟨b, o + j, none⟩ = some x
theorem VR.below {w w' : World} {A : Option Addr} {l : List Value} (h : VR w A l) (hb : Below w.heap.size w w') : VR w' A l := by
  rcases h with h | ⟨b, o, h1, h2, h3⟩
  · exact .inl h
  · exact .inr ⟨b, o, h1, Nat.lt_of_lt_of_le h2 hb.size, fun j x hj => (hb.cell (p := ⟨b, o + j, none⟩) h2).trans (h3 j x hj)⟩
theorem VR.at {w : World} {A : Option Addr} {l : List Value} (h : VR w A l) {k : Nat} {x : Value} (hk : l[k]? = some x) : ∃ b o, A = some ⟨b, o, none⟩ ∧ b < w.heap.size ∧ w.cell? ⟨b, o + k, none⟩ = some x := by
  rcases h with h | ⟨b, o, h1, h2, h3⟩
  · rw [h] at hk; cases hk
  · exact ⟨b, o, h1, h2, h3 k x hk⟩
def SV (ss : List ByteArray) : List Value := ss.map .string
def ZV (zs : List Int) : List Value := zs.map (.int .i64)
set_option maxRecDepth 100000 in
set_option maxHeartbeats 4000000 in
theorem walkNears0 (W : World) (haw : Calls Tryz.prog 9 #[] W fun e w' => e = .returned (.bool true) ∧ Below W.heap.size W w') (A B : Option Addr) (ss : List ByteArray) (zs : List Int) (c d : Nat) (hA : VR W A (SV ss)) (hB : VR W B (ZV zs)) (lc : ss.length ≤ c) (ld : zs.length ≤ d) (ls : c ≤ 1152921504606846976) (lz : d ≤ 1152921504606846976) (hs : ∀ s ∈ ss, s.size ≤ 1000000000) (hz : ∀ z ∈ zs, -9223372036854775808 ≤ z ∧ z ≤ 9223372036854775807) :
    Calls Tryz.prog 6 #[.slice A ss.length c, .slice B zs.length d] W fun e w' => e = .returned (.bool true) ∧ Below W.heap.size W w' := by
  have haw := Lib.hid haw
  have HA := Lib.hid hA
  have HB := Lib.hid hB
  have HS := Lib.hid hs
  have HZ := Lib.hid hz
  have l1 : (ss.length : Int) ≤ 1152921504606846976 := by omega
  have l2 : (zs.length : Int) ≤ 1152921504606846976 := by omega
  clear hA hB hs hz
  go_enter Tryz.func6, Tryz.ntmps6
  go_wp2_with (go_at_call 9; refine haw.out.mono ?_; rintro e w1 ⟨rfl, hb⟩; have I := Lib.hid hb; clear hb)
  go_loopw [6] (fun i wx => ∃ k : Nat, i = .int .i64 k ∧ Hid (k ≤ ss.length ∧ Below W.heap.size W wx)) (fun i _ => ss.length - (intOf i).toNat)
  case atStart => exact ⟨0, rfl, Lib.hid ⟨Nat.zero_le _, I.out⟩⟩
  case round =>
    obtain ⟨k, rfl, hI⟩ := hrel
    have k1 : (k : Int) ≤ (ss.length : Int) := by have := hI.out.1; omega
    by_cases h1 : k < ss.length
    · have i1 : (k : Int) < (ss.length : Int) := by omega
      by_cases h2 : k < zs.length
      · have i2 : (k : Int) < (zs.length : Int) := by omega
        obtain ⟨s, hs⟩ : ∃ s, ss[k]? = some s := ⟨ss[k], List.getElem?_eq_getElem h1⟩
        obtain ⟨z, hz⟩ : ∃ z, zs[k]? = some z := ⟨zs[k], List.getElem?_eq_getElem h2⟩
        obtain ⟨b1, o1, rfl, p1, q1⟩ := (HA.out.below hI.out.2).at (k := k) (x := .string s) (by unfold SV; rw [List.getElem?_map, hs]; rfl)
        obtain ⟨b2, o2, rfl, p2, q2⟩ := (HB.out.below hI.out.2).at (k := k) (x := .int .i64 z) (by unfold ZV; rw [List.getElem?_map, hz]; rfl)
        have sz := HS.out s (List.mem_of_getElem? hs)
        have zz := HZ.out z (List.mem_of_getElem? hz)
        have CL := Lib.hid (fun w => lNear s z w sz zz)
        have CR := Lib.hid (fun w => rNear s z w sz zz)
        have hle := nrW_le (bl s) z
        obtain ⟨x, hx⟩ : ∃ x, x = nrW (bl s) z := ⟨_, rfl⟩
        obtain ⟨y, hy⟩ : ∃ y, y = nrK (bl s) := ⟨_, rfl⟩
        rw [← hx, ← hy] at CL CR
        rw [← hx] at hle
        have CS := Lib.hid (fun w => rSame x w hle)
        have HK := Lib.hid h1
        have PP := Lib.hid (And.intro p1 p2)
        clear hx hy hle sz zz hs hz h1 h2 p1 p2
        go_upto_region 5 with fail
        go_cut [7, 8] (fun u v wx => u = .float .f64 x ∧ v = .int .i64 (y : Int) ∧ Hid (Below wr.heap.size wr wx))
        case first =>
          rename_i JJ QQ HRJ HMK
          have J : Hid (Below wr.heap.size wr wr.drew) := Lib.hid ⟨rfl, rfl, rfl, Nat.le_refl _, fun _ _ => rfl⟩
          have KK : Hid (∀ wx : World, Below wr.heap.size wr wx → wx.cell? ⟨b1, o1 + k, none⟩ = some (.string s) ∧ wx.cell? ⟨b2, o2 + k, none⟩ = some (.int .i64 z)) := Lib.hid fun wx h => ⟨(h.cell (p := ⟨b1, o1 + k, none⟩) PP.out.1).trans q1, (h.cell (p := ⟨b2, o2 + k, none⟩) PP.out.2).trans q2⟩
          obtain ⟨g1, g2⟩ := KK.out _ J.out
          go_region_held3 (fun w' => w'.cell? ⟨b1, o1 + k, none⟩ = some (.string s) ∧ w'.cell? ⟨b2, o2 + k, none⟩ = some (.int .i64 z)) (exact KK.out _ J.out) (first | (go_at_call 19; with_reducible refine (CL.out _).mono ?_; rintro e w3 ⟨rfl, hb⟩; replace J := Lib.hid (J.out.trans (hb.mono J.out.size)); clear hb))
          all_goals
            refine HMK _ _ (Met.intro (HRJ _ _ ?_))
            (repeat apply Exists.intro)
            exact ⟨⟨rfl, rfl, J⟩, rfl⟩
        case rest =>
          obtain ⟨rfl, rfl, hJ⟩ := hcut
          obtain ⟨q1, q2⟩ : wc.cell? ⟨b1, o1 + k, none⟩ = some (.string s) ∧ wc.cell? ⟨b2, o2 + k, none⟩ = some (.int .i64 z) := ⟨(hJ.out.cell (p := ⟨b1, o1 + k, none⟩) PP.out.1).trans q1, (hJ.out.cell (p := ⟨b2, o2 + k, none⟩) PP.out.2).trans q2⟩
          have PP := Lib.hid (And.intro (Nat.lt_of_lt_of_le PP.out.1 hJ.out.size) (Nat.lt_of_lt_of_le PP.out.2 hJ.out.size))
          go_upto_region 6 with fail
          go_cut [9, 10] (fun u v wx => u = .float .f64 x ∧ v = .int .i64 (y : Int) ∧ Hid (Below wc.heap.size wc wx))
          case first =>
            rename_i JJ QQ HRJ HMK
            have J : Hid (Below wc.heap.size wc wc.drew) := Lib.hid ⟨rfl, rfl, rfl, Nat.le_refl _, fun _ _ => rfl⟩
            have KK : Hid (∀ wx : World, Below wc.heap.size wc wx → wx.cell? ⟨b1, o1 + k, none⟩ = some (.string s) ∧ wx.cell? ⟨b2, o2 + k, none⟩ = some (.int .i64 z)) := Lib.hid fun wx h => ⟨(h.cell (p := ⟨b1, o1 + k, none⟩) PP.out.1).trans q1, (h.cell (p := ⟨b2, o2 + k, none⟩) PP.out.2).trans q2⟩
            obtain ⟨g1, g2⟩ := KK.out _ J.out
            go_region_held3 (fun w' => w'.cell? ⟨b1, o1 + k, none⟩ = some (.string s) ∧ w'.cell? ⟨b2, o2 + k, none⟩ = some (.int .i64 z)) (exact KK.out _ J.out) (first | (go_at_call 20; with_reducible refine (CR.out _).mono ?_; rintro e w3 ⟨rfl, hb⟩; replace J := Lib.hid (J.out.trans (hb.mono J.out.size)); clear hb))
            all_goals
              refine HMK _ _ (Met.intro (HRJ _ _ ?_))
              (repeat apply Exists.intro)
              exact ⟨⟨rfl, rfl, J⟩, rfl⟩
          case rest =>
            obtain ⟨rfl, rfl, hJ2⟩ := hcut
            have E : Hid (k + 1 ≤ ss.length) := HK
            have BB2 := Lib.hid (hI.out.2.trans ((hJ.out.trans (hJ2.out.mono hJ.out.size)).mono hI.out.2.size))
            clear CL CR q1 q2
            go_wp2_with (go_at_call 14; refine (CS.out _).mono ?_; rintro e w4 ⟨rfl, rfl⟩)
            go_roundw
            case rel => exact ⟨k + 1, by go_num, Lib.hid ⟨E.out, BB2.out⟩⟩
            case measure => have := E.out; simp [intOf]; omega
      · have i2 : ¬ (k : Int) < (zs.length : Int) := by omega
        have I2 := Lib.hid hI.out.2
        clear h1 h2
        go_wp2_with fail
        go_ret
        exact ⟨rfl, I2.out⟩
    · have i1 : ¬ (k : Int) < (ss.length : Int) := by omega
      have I2 := Lib.hid hI.out.2
      clear h1
      go_wp2_with fail
      go_ret
      exact ⟨rfl, I2.out⟩
end Go.Proofs.YtjkifbkehochoaaGreatDoor
