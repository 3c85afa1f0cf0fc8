/- Whole numbers in memory; trim. -/
import Derived.Test.YtlgencbldbpbdaaGreatDoorMgDhB
import Derived.Test.YtlgencbldbpbdaaGreatDoorMgBase
import Derived.Below
import Derived.OwnWalk
namespace Go.Proofs.YtlgencbldbpbdaaGreatDoor
open Go.RowKit Fl
def NA (w : World) (b o : Nat) (l : List Nat) : Prop := b < w.heap.size ∧ ∀ j x : Nat, l[j]? = some x → w.cell? ⟨b, o + j, none⟩ = some (.int .u64 x)
def NL (w : World) (v : Value) (l : List Nat) : Prop :=
 W64 l ∧ ((v = .slice none 0 0 ∧ l = []) ∨ ∃ b o c, v = .slice (some ⟨b, o, none⟩) l.length c ∧ l.length ≤ c ∧ c ≤ maxLen ∧ NA w b o l)
theorem NA.below {w w' : World} {b o : Nat} {l : List Nat} (h : NA w b o l) (hb : Below w.heap.size w w') : NA w' b o l :=
 ⟨Nat.lt_of_lt_of_le h.1 hb.size, fun j x hj => (hb.cell (p := ⟨b, o + j, none⟩) h.1).trans (h.2 j x hj)⟩
theorem NL.below {w w' : World} {v : Value} {l : List Nat} (h : NL w v l) (hb : Below w.heap.size w w') : NL w' v l := by
 obtain ⟨h1, h2⟩ := h
 refine ⟨h1, ?_⟩
 rcases h2 with h2 | ⟨b, o, c, e, h3, h5, h4⟩
 ·exact .inl h2
 ·exact .inr ⟨b, o, c, e, h3, h5, h4.below hb⟩
def NV (w : World) (v : Value) (n : Nat) : Prop := ∃ l, NL w v l ∧ Can l ∧ val l = n
theorem NV.below {w w' : World} {v : Value} {n : Nat} (h : NV w v n) (hb : Below w.heap.size w w') : NV w' v n := by
 obtain ⟨l, h1, h2, h3⟩ := h
 exact ⟨l, h1.below hb, h2, h3⟩
def blk : Value → Option Nat
 | .slice (some p) _ _ => some p.block
 | _ => none
def lenOf : Value → Nat
 | .slice _ n _ => n
 | _ => 0
theorem NA.take {w : World} {b o : Nat} {l : List Nat} (h : NA w b o l) (k : Nat) : NA w b o (l.take k) := ⟨h.1, fun j x hj => h.2 j x (by
 rw [List.getElem?_take] at hj
 split at hj
 ·exact hj
 ·cases hj)⟩
set_option maxRecDepth 100000 in
set_option maxHeartbeats 1000000 in
theorem c82b {w : World} {v : Value} {l : List Nat} (h : NL w v l) : Calls Tryz.prog 253 #[v] w fun e w' => w = w' ∧ ∃ v', e = .returned v' ∧ NL w v' (l.take (tn l l.length)) ∧ ∀ g, blk v' = some g → blk v = some g := by
 obtain ⟨hW, h⟩ := h
 rcases h with ⟨rfl, rfl⟩ | ⟨b, o, c, rfl, hc, hcm, hA⟩
 ·have HR : Hid (NL w (.slice none 0 0) []) := Lib.hid ⟨hW, .inl ⟨rfl, rfl⟩⟩
  clear hW
  go_enter Tryz.func253, Tryz.ntmps253
  go_wp2
  refine wp_loop_rounds 1 ?_
  rw [rounds_succ]
  go_wp2
  go_ret
  exact ⟨rfl, _, rfl, HR.out, fun g h => h⟩
 ·have H := Lib.hid hA
  have HW := Lib.hid hW
  have HC := Lib.hid hc
  have HM := Lib.hid hcm
  have hm : (c : Int) ≤ 9223372036854775807 := by have := hcm; unfold maxLen at this; omega
  clear hA hW hc hcm
  go_enter Tryz.func253, Tryz.ntmps253
  go_wp2_with fail
  go_loopw [0] (fun v wx => ∃ k : Nat, Hid (k ≤ l.length) ∧ v = .slice (some ⟨b, o, none⟩) k c ∧ Hid (tn l k = tn l l.length) ∧ wx = w) (fun v _ => lenOf v)
  case atStart => exact ⟨l.length, Lib.hid (Nat.le_refl _), rfl, Lib.hid rfl, rfl⟩
  case round =>
   obtain ⟨k, hk, rfl, ht, rfl⟩ := hrel
   rcases k with _ | m
   ·have HR : Hid (NL wr (.slice (some ⟨b, o, none⟩) 0 c) (l.take (tn l l.length))) := Lib.hid (by
     rw [← ht.out]
     exact ⟨fun x hx => (nomatch hx), .inr ⟨b, o, c, rfl, Nat.zero_le _, HM.out, ⟨H.out.1, fun j x hj => (nomatch hj)⟩⟩⟩)
    go_wp2
    go_ret
    exact ⟨rfl, _, rfl, HR.out, fun g h => h⟩
   ·obtain ⟨x, hx⟩ : ∃ x, l[m]? = some x := ⟨l[m]'(by have := hk.out; omega), List.getElem?_eq_getElem _⟩
    have kc := H.out.2 m x hx
    have hmc : (m : Int) ≤ (c : Int) := by have := hk.out; have := HC.out; omega
    have hm2 : (m : Int) ≤ 9223372036854775806 := by have := hk.out; have := HC.out; have := HM.out; unfold maxLen at this; omega
    have hgd : l.getD m 0 = x := by rw [List.getD, hx]; rfl
    by_cases h0 : x = 0
    ·subst h0
     have T2 : Hid (tn l m = tn l l.length) := Lib.hid (by rw [← ht.out, tn, if_pos hgd])
     clear hx hgd
     go_wp2
     go_roundw
     case rel => exact ⟨m, Lib.hid (by have := hk.out; omega), by go_num, T2, trivial⟩
     case measure => simp [lenOf]
    ·have HR : Hid (NL wr (.slice (some ⟨b, o, none⟩) (m + 1) c) (l.take (tn l l.length))) := Lib.hid (by
      rw [← ht.out, tn, if_neg (by rw [hgd]; exact h0)]
      have e : (l.take (m + 1)).length = m + 1 := by rw [List.length_take]; have := hk.out; omega
      exact ⟨HW.out.take _, .inr ⟨b, o, c, by rw [e], by rw [e]; have := hk.out; have := HC.out; omega, HM.out, H.out.take _⟩⟩)
     have h1 : ¬ ((x : Int) = 0) := by omega
     clear hx hgd h0
     go_wp2
     go_ret
     exact ⟨rfl, _, rfl, HR.out, fun g h => h⟩
theorem c82 {w : World} {v : Value} {l : List Nat} (h : NL w v l) : Calls Tryz.prog 253 #[v] w fun e w' => w = w' ∧ ∃ v', e = .returned v' ∧ NL w v' (l.take (tn l l.length)) :=
 (c82b h).mono fun _ _ ⟨a, v', b, c, _⟩ => ⟨a, v', b, c⟩
end Go.Proofs.YtlgencbldbpbdaaGreatDoor
