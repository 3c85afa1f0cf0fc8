/- Mul of whole numbers. -/
import Derived.Test.YtlgencbldbpbdaaGreatDoorMgLgH
import Derived.Deep.RegionWith
namespace Go.Proofs.YtlgencbldbpbdaaGreatDoor
open Go.RowKit Fl
theorem val_cons_drop {b : List Nat} {i z : Nat} (h : b[i]? = some z) : val (b.drop i) = z + BB * val (b.drop (i + 1)) := by
 have hl : i < b.length := (List.getElem?_eq_some_iff.1 h).1
 rw [List.drop_eq_getElem_cons hl, val, (List.getElem?_eq_some_iff.1 h).2]
theorem mul_step (x z r : Nat) : x * (z + BB * r) = x * r * 2 ^ 64 + (x * z + 0) := by
 have e : BB = 2 ^ 64 := rfl
 rw [e, Nat.mul_add, Nat.add_zero, Nat.add_comm, Nat.mul_left_comm, Nat.mul_comm (2 ^ 64)]
theorem blen_mul_le (x r : Nat) : blen (x * r) ≤ blen x + blen r := by
 refine blen_lt _ _ ?_
 rw [Nat.pow_add]
 rcases Nat.eq_zero_or_pos r with h | h
 ·subst h
  rw [Nat.mul_zero]
  exact Nat.mul_pos (Nat.two_pow_pos _) (Nat.two_pow_pos _)
 ·exact Nat.mul_lt_mul_of_lt_of_le (lt_blen x) (Nat.le_of_lt (lt_blen r)) (Nat.two_pow_pos _)
theorem blen_shl2 (m s : Nat) : blen (m * 2 ^ s) ≤ blen m + s := by
 rcases Nat.eq_zero_or_pos m with h | h
 ·subst h; rw [Nat.zero_mul]; exact Nat.le_add_right _ _
 ·rw [blen_mul m s h]; exact Nat.le_refl _
structure MW (w wx : World) (v u o : Value) (x : Nat) (b : List Nat) (X : Nat) : Prop where
 v : NV wx v x
 u : NL wx u b
 o : NV wx o X
 l : Below w.heap.size w wx
theorem MW.below {w wx wy : World} {v u o : Value} {x : Nat} {b : List Nat} {X : Nat} (h : MW w wx v u o x b X) (hz : w.heap.size ≤ wx.heap.size) (k : Below wx.heap.size wx wy) : MW w wy v u o x b X := ⟨h.v.below k, h.u.below k, h.o.below k, h.l.trans (k.mono hz)⟩
set_option maxRecDepth 100000 in
set_option maxHeartbeats 2000000 in
theorem lMul {w : World} {v u : Value} {x y : Nat} (hv : NV w v x) (hu : NV w u y) (hx : blen x ≤ 10000) (hy : blen y ≤ 10000) :
  Calls Tryz.prog 187 #[v, u] w fun e w' => Below w.heap.size w w' ∧ ∃ v', e = .returned v' ∧ NV w' v' (x * y) := by
 obtain ⟨b, nb, cb, rfl⟩ := hu
 have hl := len_small nb.1 cb (n := 1000) (by omega)
 have hl2 : (b.length : Int) ≤ 1000 := by omega
 obtain ⟨A, c, rfl⟩ := nb.form
 have HX := Lib.hid (And.intro hx hy)
 have I0 : Hid (MW w w v (.slice A b.length c) (.slice none 0 0) x b (x * val (b.drop b.length))) := Lib.hid ⟨hv, nb, by rw [List.drop_length]; exact ⟨[], ⟨fun x hx => (nomatch hx), .inl ⟨rfl, rfl⟩⟩, .inl rfl, by simp [val]⟩, Below.refl _ _⟩
 clear hv nb cb hx hy hl
 go_enter Tryz.func187, Tryz.ntmps187
 go_wp2_with fail
 go_loopw [5, 6] (fun o ii wx => ∃ k : Nat, ii = .int .i64 ((k : Int) - 1) ∧ Hid (k ≤ b.length) ∧ Hid (MW w wx v (.slice A b.length c) o x b (x * val (b.drop k)))) (fun _ ii _ => (intOf ii + 1).toNat)
 case atStart => exact ⟨b.length, rfl, Lib.hid (Nat.le_refl _), I0⟩
 case round =>
  obtain ⟨k, rfl, hk, hI⟩ := hrel
  clear I0
  rcases k with _ | i
  ·have ez : ((0 : Nat) : Int) - 1 = -1 := rfl
   rw [ez]
   have HR := Lib.hid (And.intro hI.out.l hI.out.o)
   clear hI hk
   go_wp2_with fail
   go_ret
   exact ⟨HR.out.1, _, rfl, HR.out.2⟩
  ·have ei : ((i + 1 : Nat) : Int) - 1 = (i : Int) := by omega
   rw [ei]
   clear ei
   have hib : i < b.length := hk.out
   have hii : (i : Int) < (b.length : Int) := by omega
   obtain ⟨p, o, c2, e1, q1, q2, hA⟩ := hI.out.u.addr (by omega)
   cases e1
   obtain ⟨z, hz⟩ : ∃ z, b[i]? = some z := ⟨b[i], List.getElem?_eq_getElem hib⟩
   have kc := hA.2 i z hz
   have HZ := Lib.hid hz
   have HP := Lib.hid hA.1
   have hzB : z < BB := hI.out.u.1 z (List.mem_of_getElem? hz)
   have HS := Lib.hid (val_cons_drop hz)
   have HZB := Lib.hid hzB
   clear hA q1 q2 hz hzB hib
   go_upto_region 5 with fail
   have hb1 : blen (x * val (b.drop (i + 1))) ≤ 30000 := by
    have h1 := blen_mul_le x (val (b.drop (i + 1)))
    have h2 : val (b.drop (i + 1)) ≤ val b := by
     have := val_split b (i + 1)
     have h3 : 1 ≤ BB ^ (b.take (i + 1)).length := Nat.pow_pos BB_pos
     have h4 := Nat.mul_le_mul_right (val (b.drop (i + 1))) h3
     omega
    have h5 := blen_mono h2
    have := HX.out
    omega
   have hb2 : blen (x * z + 0) ≤ 30000 := by
    have h1 := blen_mul_le x z
    have h2 : blen z ≤ 64 := blen_lt _ _ HZB.out
    have := HX.out
    rw [Nat.add_zero]
    omega
   have HB := Lib.hid (And.intro hb1 hb2)
   have MS := Lib.hid (mul_step x z (val (b.drop (i + 1))))
   rw [← HS.out] at MS
   clear hb1 hb2
   have hI0 : MW w wr.drew v (.slice (some ⟨p, o, none⟩) b.length c) u5 x b (x * val (b.drop (i + 1))) := ⟨hI.out.v.drew1, hI.out.u, hI.out.o.drew1, hI.out.l.drew⟩
   have SZ0 : w.heap.size ≤ wr.drew.heap.size := hI.out.l.size
   have kc0 : wr.drew.cell? ⟨p, o + i, none⟩ = some (.int .u64 (z : Int)) := kc
   have HP0 : p < wr.drew.heap.size := HP.out
   have J := Lib.hid (And.intro hI0 (And.intro SZ0 HP0))
   clear hI0 SZ0 HP0 kc hI
   go_region_with (first
    | (go_at_call 246; refine (c40 (n := 64) J.out.1.o (by have := HB.out.1; omega)).mono ?_; rintro e w5 ⟨hb5, v15, rfl, h15⟩; have kc5 := (hb5.cell (p := ⟨p, o + i, none⟩) J.out.2.2).trans kc0; replace J := Lib.hid (And.intro (J.out.1.below J.out.2.1 hb5) (And.intro (Nat.le_trans J.out.2.1 hb5.size) (Nat.lt_of_lt_of_le J.out.2.2 hb5.size))); have K15 := Lib.hid h15; (try replace K21 := Lib.hid (K21.out.below hb5)); clear hb5 h15)
    | (go_at_call 250; refine (lTimes (c := 0) J.out.1.v (by have := HX.out; omega) HZB.out BB_pos).mono ?_; rintro e w6 ⟨hb6, v21, rfl, h21, -⟩; replace J := Lib.hid (And.intro (J.out.1.below J.out.2.1 hb6) (And.intro (Nat.le_trans J.out.2.1 hb6.size) (Nat.lt_of_lt_of_le J.out.2.2 hb6.size))); have K21 := Lib.hid h21; (try replace K15 := Lib.hid (K15.out.below hb6)); clear hb6 h21)
    | (go_at_call 249; refine (lAdd K15.out K21.out (by have h1 := HB.out.1; have h2 := blen_shl2 (x * val (b.drop (i + 1))) 64; omega) (by have := HB.out.2; omega)).mono ?_; rintro e w7 ⟨hb7, v22, rfl, h22, -⟩; replace J := Lib.hid (And.intro (J.out.1.below J.out.2.1 hb7) (And.intro (Nat.le_trans J.out.2.1 hb7.size) (Nat.lt_of_lt_of_le J.out.2.2 hb7.size))); have K22 := Lib.hid h22; clear hb7 h22))
   all_goals
    go_wp2_with fail
    go_roundw
    case rel => exact ⟨i, rfl, Lib.hid (by have := hk.out; omega), Lib.hid ⟨J.out.1.v, J.out.1.u, by rw [MS.out]; exact K22.out, J.out.1.l⟩⟩
    case measure => simp [intOf]
end Go.Proofs.YtlgencbldbpbdaaGreatDoor
