/- strings.TrimLeft, TrimRight of noughts. strings.TrimLeft, TrimRight of noughts: the whole calls. Whole numbers as rows of words of 64 bits: plain laws. -/
import Derived.Test.YtlgencbldbpbdaaGreatDoorMgFl
import Derived.Test.YtlgencbldbpbdaaGreatDoorMgBase
import Derived.Deep.DeepCutAuto
import Derived.WalkSpells
namespace Go.Proofs.YtlgencbldbpbdaaGreatDoor
open Go.RowKit Fl
def sizeOf' : Value → Nat
 | .string z => z.size
 | _ => 0
theorem bl_tail (z : ByteArray) : bl (z.extract 1 z.size) = (bl z).drop 1 := by
 rw [bl_extract, List.take_of_length_le (by rw [bl_len]; exact Nat.le_refl _)]
theorem lead_cons {l : List Nat} {x : Nat} (h : l[0]? = some x) : lead l = if x = 48 then lead (l.drop 1) + 1 else 0 := by
 have := lead_step h
 rwa [List.drop_zero] at this
set_option maxRecDepth 100000 in
set_option maxHeartbeats 1000000 in
theorem lTrimLB (s : ByteArray) (w : World) (hs : s.size ≤ 4611686018427387904) :
  Calls Tryz.prog 126 #[.string s, .int .u8 48] w fun e w' => (∃ z : ByteArray, e = .returned (.string z) ∧ bl z = (bl s).drop (lead (bl s))) ∧ w = w' := by
 have HS := Lib.hid hs
 clear hs
 go_enter Tryz.func126, Tryz.ntmps126
 go_wp2_with fail
 go_loopw [0] (fun v wx => ∃ z : ByteArray, v = .string z ∧ Hid (z.size ≤ 4611686018427387904) ∧ Hid ((bl z).drop (lead (bl z)) = (bl s).drop (lead (bl s))) ∧ wx = w) (fun v _ => sizeOf' v)
 case atStart => exact ⟨s, rfl, HS, Lib.hid rfl, rfl⟩
 case round =>
  obtain ⟨z, rfl, hz, hI, rfl⟩ := hrel
  have z1 : (z.size : Int) ≤ 4611686018427387904 := by have := hz.out; omega
  by_cases h0 : 0 < z.size
  ·have hx := bl_get z 0 h0
   have hl := lead_cons hx
   have z2 : (0 : Int) < (z.size : Int) := by omega
   have z3 : (1 : Int) ≤ (z.size : Int) := by omega
   by_cases hb : (z[0]).toNat = 48
   ·rw [if_pos hb] at hl
    have E : Hid ((bl (z.extract 1 z.size)).drop (lead (bl (z.extract 1 z.size))) = (bl s).drop (lead (bl s))) := Lib.hid (by
     rw [bl_tail, List.drop_drop, ← hI.out, hl, Nat.add_comm])
    have S2 : Hid ((z.extract 1 z.size).size ≤ 4611686018427387904) := Lib.hid (by rw [ByteArray.size_extract]; have := hz.out; omega)
    have S3 : Hid ((z.extract 1 z.size).size < z.size) := Lib.hid (by rw [ByteArray.size_extract]; omega)
    have b0 : ((z[0]).toNat : Int) = 48 := by omega
    clear hx hl
    go_wp2_with fail
    go_roundw
    case rel => exact ⟨_, rfl, S2, E, trivial⟩
    case measure => exact S3.out
   ·rw [if_neg hb] at hl
    have E : Hid (bl z = (bl s).drop (lead (bl s))) := Lib.hid (by rw [← hI.out, hl, List.drop_zero])
    have b0 : ¬ ((z[0]).toNat : Int) = 48 := by omega
    clear hx hl
    go_wp2_with fail
    go_ret
    exact ⟨⟨_, rfl, E.out⟩, rfl⟩
  ·have e : bl z = [] := List.eq_nil_of_length_eq_zero (by rw [bl_len]; omega)
   have E : Hid (bl z = (bl s).drop (lead (bl s))) := Lib.hid (by rw [← hI.out, e]; rfl)
   have z2 : ¬ (0 : Int) < (z.size : Int) := by omega
   clear e
   go_wp2_with fail
   go_ret
   exact ⟨⟨_, rfl, E.out⟩, rfl⟩
set_option maxRecDepth 100000 in
set_option maxHeartbeats 1000000 in
theorem lTrimRB (s : ByteArray) (w : World) (hs : s.size ≤ 4611686018427387904) :
  Calls Tryz.prog 127 #[.string s, .int .u8 48] w fun e w' => (∃ z : ByteArray, e = .returned (.string z) ∧ bl z = (bl s).take (te (bl s) 0 s.size)) ∧ w = w' := by
 have HS := Lib.hid hs
 clear hs
 go_enter Tryz.func127, Tryz.ntmps127
 go_wp2_with fail
 go_loopw [0] (fun v wx => ∃ z : ByteArray, v = .string z ∧ Hid (z.size ≤ s.size ∧ s.size ≤ 4611686018427387904) ∧ Hid (bl z = (bl s).take z.size ∧ te (bl s) 0 z.size = te (bl s) 0 s.size) ∧ wx = w) (fun v _ => sizeOf' v)
 case atStart => exact ⟨s, rfl, Lib.hid ⟨Nat.le_refl _, HS.out⟩, Lib.hid ⟨by rw [List.take_of_length_le (by rw [bl_len]; exact Nat.le_refl _)], rfl⟩, rfl⟩
 case round =>
  obtain ⟨z, rfl, hz, hI, rfl⟩ := hrel
  have z1 : (z.size : Int) ≤ 4611686018427387904 := by have := hz.out; omega
  by_cases h0 : 0 < z.size
  ·obtain ⟨j, hj⟩ : ∃ j, z.size = j + 1 := ⟨z.size - 1, by omega⟩
   have hjz : j < z.size := by omega
   have hx : (bl s).getD j 0 = (z[j]).toNat := by
    have h1 := bl_get z j hjz
    rw [hI.out.1, List.getElem?_take, if_pos hjz] at h1
    rw [List.getD, h1]; rfl
   have ht := hI.out.2
   rw [hj, te, hx] at ht
   have z2 : (0 : Int) < (z.size : Int) := by omega
   have z3 : (1 : Int) ≤ (z.size : Int) := by omega
   have z4 : (z.size : Int) - 1 = (j : Int) := by omega
   have z5 : (j : Int) < (z.size : Int) := by omega
   by_cases hb : (z[j]).toNat = 48
   ·rw [if_pos ⟨Nat.succ_pos j, hb⟩] at ht
    have sz : (z.extract 0 j).size = j := by rw [ByteArray.size_extract]; omega
    have E : Hid (bl (z.extract 0 j) = (bl s).take (z.extract 0 j).size ∧ te (bl s) 0 (z.extract 0 j).size = te (bl s) 0 s.size) := Lib.hid (by
     rw [sz]
     refine ⟨?_, ht⟩
     rw [bl_extract, List.drop_zero, hI.out.1, List.take_take, Nat.min_eq_left (by omega)])
    have S2 : Hid ((z.extract 0 j).size ≤ s.size ∧ s.size ≤ 4611686018427387904) := Lib.hid (by rw [sz]; have := hz.out; omega)
    have S3 : Hid ((z.extract 0 j).size < z.size) := Lib.hid (by omega)
    have b0 : ((z[j]).toNat : Int) = 48 := by omega
    clear hx ht sz
    go_wp2_with fail
    go_roundw
    case rel => exact ⟨_, rfl, S2, E, trivial⟩
    case measure => exact S3.out
   ·rw [if_neg (fun e => hb e.2)] at ht
    have E : Hid (bl z = (bl s).take (te (bl s) 0 s.size)) := Lib.hid (by rw [← ht, ← hj]; exact hI.out.1)
    have b0 : ¬ ((z[j]).toNat : Int) = 48 := by omega
    clear hx ht
    go_wp2_with fail
    go_ret
    exact ⟨⟨_, rfl, E.out⟩, rfl⟩
  ·have e : z.size = 0 := by omega
   have E : Hid (bl z = (bl s).take (te (bl s) 0 s.size)) := Lib.hid (by rw [← hI.out.2, e]; have := hI.out.1; rw [e] at this; exact this)
   have z2 : ¬ (0 : Int) < (z.size : Int) := by omega
   clear e
   go_wp2_with fail
   go_ret
   exact ⟨⟨_, rfl, E.out⟩, rfl⟩
end Go.Proofs.YtlgencbldbpbdaaGreatDoor
namespace Go.Proofs.YtlgencbldbpbdaaGreatDoor
open Go.RowKit Fl
theorem empty_bl {s : ByteArray} (h : s.size = 0) : s.toList = [] ∧ s.toList.isEmpty = true ∧ bl s = [] := by
 have e : s.data.toList = [] := List.eq_nil_of_length_eq_zero h
 have e2 : s.toList = [] := by rw [ByteArray.toList_eq, e]
 exact ⟨e2, by rw [e2]; rfl, by unfold bl; rw [e]; rfl⟩
theorem full_bl {s : ByteArray} (h : 0 < s.size) : ¬ s.toList = [] ∧ s.toList.isEmpty = false := by
 have e : s.toList ≠ [] := fun e => by
  rw [ByteArray.toList_eq] at e
  have h2 : s.data.toList.length = s.size := rfl
  rw [e] at h2
  simp at h2
  omega
 exact ⟨e, by simpa using e⟩
set_option maxRecDepth 100000 in
theorem lTrimL (s : ByteArray) (w : World) (hs : s.size ≤ 4611686018427387904) :
  Calls Tryz.prog 255 #[.string s, .string ⟨#[48]⟩] w fun e w' => (∃ z : ByteArray, e = .returned (.string z) ∧ bl z = (bl s).drop (lead (bl s))) ∧ w = w' := by
 have C := Lib.hid (fun w => lTrimLB s w hs)
 clear hs
 by_cases h : s.size = 0
 ·obtain ⟨e1, e2, e3⟩ := empty_bl h
  have E : Hid (bl s = (bl s).drop (lead (bl s))) := Lib.hid (by rw [e3]; rfl)
  clear e3 h
  go_enter Tryz.func255, Tryz.ntmps255
  go_wp2
  go_ret
  exact ⟨⟨_, rfl, E.out⟩, rfl⟩
 ·obtain ⟨e1, e2⟩ := full_bl (s := s) (by omega)
  clear h
  go_enter Tryz.func255, Tryz.ntmps255
  go_wp2_with (go_at_call 126; refine (C.out _).mono ?_; rintro e w' ⟨⟨z, rfl, hz⟩, rfl⟩; have Z := Lib.hid hz; clear hz)
  go_ret
  exact ⟨⟨_, rfl, Z.out⟩, rfl⟩
set_option maxRecDepth 100000 in
theorem lTrimR (s : ByteArray) (w : World) (hs : s.size ≤ 4611686018427387904) :
  Calls Tryz.prog 191 #[.string s, .string ⟨#[48]⟩] w fun e w' => (∃ z : ByteArray, e = .returned (.string z) ∧ bl z = (bl s).take (te (bl s) 0 s.size)) ∧ w = w' := by
 have C := Lib.hid (fun w => lTrimRB s w hs)
 clear hs
 by_cases h : s.size = 0
 ·obtain ⟨e1, e2, e3⟩ := empty_bl h
  have E : Hid (bl s = (bl s).take (te (bl s) 0 s.size)) := Lib.hid (by rw [e3]; simp)
  clear e3 h
  go_enter Tryz.func191, Tryz.ntmps191
  go_wp2
  go_ret
  exact ⟨⟨_, rfl, E.out⟩, rfl⟩
 ·obtain ⟨e1, e2⟩ := full_bl (s := s) (by omega)
  clear h
  go_enter Tryz.func191, Tryz.ntmps191
  go_wp2_with (go_at_call 127; refine (C.out _).mono ?_; rintro e w' ⟨⟨z, rfl, hz⟩, rfl⟩; have Z := Lib.hid hz; clear hz)
  go_ret
  exact ⟨⟨_, rfl, Z.out⟩, rfl⟩
end Go.Proofs.YtlgencbldbpbdaaGreatDoor
namespace Go.Proofs.YtlgencbldbpbdaaGreatDoor
def BB : Nat := 18446744073709551616
theorem BB_pos : 0 < BB := by decide
def val : List Nat → Nat
 | [] => 0
 | x :: l => x + BB * val l
def W64 (l : List Nat) : Prop := ∀ x ∈ l, x < BB
theorem val_append (a b : List Nat) : val (a ++ b) = val a + BB ^ a.length * val b := by
 induction a with
 | nil => simp [val]
 | cons x a ih =>
   rw [List.cons_append, val, val, ih, List.length_cons, Nat.pow_succ, Nat.mul_add, Nat.add_assoc, ← Nat.mul_assoc, Nat.mul_comm BB (BB ^ a.length)]
theorem val_lt {l : List Nat} (h : W64 l) : val l < BB ^ l.length := by
 induction l with
 | nil => simp [val]
 | cons x l ih =>
   have h1 := h x (List.mem_cons_self ..)
   have h2 := ih fun y hy => h y (List.mem_cons_of_mem _ hy)
   rw [val, List.length_cons, Nat.pow_succ, Nat.mul_comm (BB ^ l.length)]
   have : BB * (val l + 1) ≤ BB * BB ^ l.length := Nat.mul_le_mul_left _ h2
   rw [Nat.mul_add, Nat.mul_one] at this
   omega
theorem val_take_succ {l : List Nat} {k : Nat} (h : k < l.length) : val (l.take (k + 1)) = val (l.take k) + BB ^ k * l.getD k 0 := by
 rw [List.take_add_one, List.getElem?_eq_getElem h, val_append, List.length_take, Nat.min_eq_left (by omega)]
 simp [val, List.getD, List.getElem?_eq_getElem h]
theorem val_replicate (n : Nat) : val (List.replicate n 0) = 0 := by
 induction n with
 | zero => rfl
 | succ n ih => rw [List.replicate_succ, val, ih, Nat.mul_zero]
theorem W64.take {l : List Nat} (h : W64 l) (k : Nat) : W64 (l.take k) := fun x hx => h x (List.mem_of_mem_take hx)
theorem W64.drop {l : List Nat} (h : W64 l) (k : Nat) : W64 (l.drop k) := fun x hx => h x (List.mem_of_mem_drop hx)
theorem W64.append {a b : List Nat} (h : W64 a) (k : W64 b) : W64 (a ++ b) := fun x hx => by
 rcases List.mem_append.1 hx with h1 | h1
 ·exact h x h1
 ·exact k x h1
theorem W64.getD {l : List Nat} (h : W64 l) (k : Nat) : l.getD k 0 < BB := by
 rw [List.getD]
 cases hk : l[k]? with
 | none => exact BB_pos
 | some x => exact h x (List.mem_of_getElem? hk)
theorem W64.replicate (n : Nat) : W64 (List.replicate n 0) := fun x hx => by rw [(List.mem_replicate.1 hx).2]; exact BB_pos
def Can (l : List Nat) : Prop := l.length = 0 ∨ l.getD (l.length - 1) 0 ≠ 0
def tn (l : List Nat) : Nat → Nat
 | 0 => 0
 | k + 1 => if l.getD k 0 = 0 then tn l k else k + 1
theorem tn_val {l : List Nat} : ∀ k, k ≤ l.length → val (l.take (tn l k)) = val (l.take k)
 | 0, _ => rfl
 | k + 1, h => by
   unfold tn
   split
   ·rename_i h0
    rw [tn_val k (by omega), val_take_succ (by omega), h0, Nat.mul_zero, Nat.add_zero]
   ·rfl
theorem tn_can {l : List Nat} : ∀ k, k ≤ l.length → Can (l.take (tn l k))
 | 0, _ => .inl (by simp [tn])
 | k + 1, h => by
   unfold tn
   split
   ·exact tn_can k (by omega)
   ·rename_i h0
    refine .inr ?_
    have e : (l.take (k + 1)).length = k + 1 := by rw [List.length_take]; omega
    rw [e, Nat.add_sub_cancel]
    rw [List.getD, List.getElem?_take, if_pos (by omega)]
    exact h0
theorem val_zero {l : List Nat} (h : Can l) (hv : val l = 0) : l = [] := by
 rcases h with h | h
 ·exact List.eq_nil_of_length_eq_zero h
 ·exfalso
  rcases Nat.eq_zero_or_pos l.length with h0 | h0
  ·rw [List.eq_nil_of_length_eq_zero h0] at h; exact h rfl
  ·have := val_take_succ (l := l) (k := l.length - 1) (by omega)
   rw [show l.length - 1 + 1 = l.length by omega, List.take_length, hv] at this
   have h1 : BB ^ (l.length - 1) * l.getD (l.length - 1) 0 = 0 := by omega
   rcases Nat.mul_eq_zero.1 h1 with h2 | h2
   ·have := Nat.pow_pos (n := l.length - 1) BB_pos
    omega
   ·exact h h2
theorem val_ge {l : List Nat} (h : Can l) (hl : 0 < l.length) : BB ^ (l.length - 1) ≤ val l := by
 rcases h with h | h
 ·omega
 ·have := val_take_succ (l := l) (k := l.length - 1) (by omega)
  rw [show l.length - 1 + 1 = l.length by omega, List.take_length] at this
  have h1 : BB ^ (l.length - 1) * 1 ≤ BB ^ (l.length - 1) * l.getD (l.length - 1) 0 := Nat.mul_le_mul_left _ (by omega)
  omega
theorem len_lt {a b : List Nat} (ha : W64 a) (hb : Can b) (h : a.length < b.length) : val a < val b := by
 have h1 := val_lt ha
 have h2 := val_ge hb (by omega)
 have h3 : BB ^ a.length ≤ BB ^ (b.length - 1) := Nat.pow_le_pow_right BB_pos (by omega)
 omega
def crw (f : Nat → Nat → Nat × Nat) (c0 : Nat) : Nat → List Nat × Nat
 | 0 => ([], c0)
 | k + 1 => ((crw f c0 k).1 ++ [(f k (crw f c0 k).2).1], (f k (crw f c0 k).2).2)
theorem cr_len (f : Nat → Nat → Nat × Nat) (c0 : Nat) : ∀ k, (crw f c0 k).1.length = k
 | 0 => rfl
 | k + 1 => by rw [crw, List.length_append, cr_len f c0 k]; rfl
def sumN (t : Nat → Nat) : Nat → Nat
 | 0 => 0
 | k + 1 => sumN t k + BB ^ k * t k
theorem cr_val {f : Nat → Nat → Nat × Nat} {c0 : Nat} {t : Nat → Nat} {n : Nat} (h : ∀ k, k < n → (f k (crw f c0 k).2).1 + BB * (f k (crw f c0 k).2).2 = t k + (crw f c0 k).2) : ∀ k, k ≤ n → val (crw f c0 k).1 + BB ^ k * (crw f c0 k).2 = sumN t k + c0
 | 0, _ => by simp [crw, val, sumN]
 | k + 1, hk => by
   have ih := cr_val h k (by omega)
   have hs := h k (by omega)
   rw [crw, sumN]
   simp only
   rw [val_append, cr_len]
   simp only [val, Nat.mul_zero, Nat.add_zero]
   rw [Nat.pow_succ, Nat.mul_assoc, Nat.add_assoc, ← Nat.mul_add, hs, Nat.mul_add]
   omega
theorem sumN_val {l : List Nat} : ∀ k, k ≤ l.length → sumN (fun i => l.getD i 0) k = val (l.take k)
 | 0, _ => rfl
 | k + 1, h => by rw [sumN, sumN_val k (by omega), val_take_succ (by omega)]
theorem sumN_mul (t : Nat → Nat) (m : Nat) : ∀ k, sumN (fun i => t i * m) k = sumN t k * m
 | 0 => by simp [sumN]
 | k + 1 => by rw [sumN, sumN, sumN_mul t m k, Nat.add_mul, Nat.mul_assoc]
theorem sumN_add (t u : Nat → Nat) : ∀ k, sumN (fun i => t i + u i) k = sumN t k + sumN u k
 | 0 => rfl
 | k + 1 => by rw [sumN, sumN, sumN, sumN_add t u k, Nat.mul_add]; omega
theorem sumN_pad {l : List Nat} : ∀ n, l.length ≤ n → sumN (fun i => l.getD i 0) n = val l
 | n, h => by
   induction n with
   | zero => rw [List.eq_nil_of_length_eq_zero (show l.length = 0 by omega)]; rfl
   | succ n ih =>
     by_cases hn : l.length = n + 1
     ·rw [sumN_val _ (by omega), ← hn, List.take_length]
     ·rw [sumN, ih (by omega)]
      have : l.getD n 0 = 0 := by rw [List.getD, List.getElem?_eq_none (by omega)]; rfl
      rw [this, Nat.mul_zero, Nat.add_zero]
end Go.Proofs.YtlgencbldbpbdaaGreatDoor
