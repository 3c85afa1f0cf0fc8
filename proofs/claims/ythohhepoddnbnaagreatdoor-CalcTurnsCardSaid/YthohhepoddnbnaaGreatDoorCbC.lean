/- calc: signs; Rem. -/
import Derived.Test.YthohhepoddnbnaaGreatDoorCbB
import Derived.Test.YthohhepoddnbnaaGreatDoorMgUB
namespace Go.Proofs.YthohhepoddnbnaaGreatDoor
open Go.RowKit Fl

theorem wrap_sg (x : Nat) (h : U x) : decide (IntKind.i64.wrap (x : Int) < 0) = sg x := by
  have := h.lt
  unfold sg
  by_cases hx : 9223372036854775808 ≤ x
  · rw [decide_eq_true hx]
    refine decide_eq_true ?_
    rw [IntKind.wrap_i64]
    omega
  · rw [decide_eq_false hx]
    refine decide_eq_false ?_
    rw [IntKind.wrap_i64]
    omega
set_option maxRecDepth 100000 in
theorem lSignbit (x : Nat) (w : World) (h : U x) : Calls Tryz.prog 60 #[.float .f64 x] w fun e w' => e = .returned (.bool (sg x)) ∧ w = w' := by
  have E : decide (wrap64 (x : Int) < 0) = sg x := by rw [← IntWalk.i64_left]; exact wrap_sg x h
  have X := fun w => x128 x w
  clear h
  go_enter Tryz.func60, Tryz.ntmps60
  go_wp2
  go_ret
  exact ⟨rfl, rfl⟩
set_option maxRecDepth 100000 in
theorem lNeg (x : Nat) (w : World) (h : U x) : Calls Tryz.prog 49 #[.float .f64 x] w fun e w' => e = .returned (.bool (sg x)) ∧ w = w' := by
  have E := b_top x h
  have X := fun w => x128 x w
  clear h
  go_enter Tryz.func49, Tryz.ntmps49
  go_wp2
  go_ret
  exact ⟨rfl, rfl⟩
set_option maxRecDepth 100000 in
theorem lSigned (r : Nat) (neg : Bool) (w : World) (hr : U r) : Calls Tryz.prog 55 #[.float .f64 r, .bool neg] w fun e w' => e = .returned (.float .f64 (if neg then ng r else r)) ∧ w = w' := by
  have hn := ng_run r
  clear hr
  cases neg
  · rw [if_neg (by decide)]
    go_enter Tryz.func55, Tryz.ntmps55
    go_wp2
    go_ret
    exact ⟨rfl, rfl⟩
  · rw [if_pos rfl]
    go_enter Tryz.func55, Tryz.ntmps55
    go_wp2
    go_ret
    exact ⟨rfl, rfl⟩
/-- what Rem answers -/
def remF (x y : Nat) : Nat := word (sg x) (rnd (Fl.val 52 (rg x) % Fl.val 52 (rg y)))
theorem fin_of (x : Nat) (hn : isN x = false) (hi : isI x = false) : rg x < 9218868437227405312 := by
  have h1 := isN_false hn
  unfold isI at hi
  have h2 : rg x ≠ 9218868437227405312 := by simpa using hi
  unfold INF at h1
  omega
theorem near_rem (x y : Nat) : min (near (pM (rg x) * 2 ^ (pE (rg x) - mE2 x y) % (pM (rg y) * 2 ^ (pE (rg y) - mE2 x y))) ((mE2 x y : Int) - 1074)) INF = rnd (Fl.val 52 (rg x) % Fl.val 52 (rg y)) := by
  unfold near rnd
  rw [val_parts, val_parts]
  have e1 : ((mE2 x y : Int) - 1074 + 1074).toNat = mE2 x y := by omega
  have e2 : (-1074 - ((mE2 x y : Int) - 1074)).toNat = 0 := by omega
  rw [e1, e2, ← Nat.mul_mod_mul_right, Nat.mul_assoc, Nat.mul_assoc, ← Nat.pow_add, ← Nat.pow_add]
  have h1 : mE2 x y ≤ pE (rg x) := Nat.min_le_left _ _
  have h2 : mE2 x y ≤ pE (rg y) := Nat.min_le_right _ _
  rw [Nat.sub_add_cancel h1, Nat.sub_add_cancel h2]
theorem order_zero (y : Nat) (hy : U y) (hn : isN y = false) (h : rg y = 0) : FloatKind.f64.format.order y 0 = some .eq := by
  have e0 : isN 0 = false := by decide
  rw [f64_order y 0 hy U_0, hn, e0, compare_int]
  have h1 : skey y = 0 := by unfold skey; rw [h]; split <;> rfl
  have h2 : skey 0 = 0 := by decide
  rw [h1, h2]
  rfl
theorem pM_pos (r : Nat) (h : r ≠ 0) : 0 < pM r := by
  unfold pM
  split
  · omega
  · exact Nat.lt_of_lt_of_le (Nat.two_pow_pos 52) (Nat.le_add_right _ _)
theorem blen_shl (m s : Nat) : blen (m * 2 ^ s) ≤ blen m + s := by
  rcases Nat.eq_zero_or_pos m with h | h
  · subst h; rw [Nat.zero_mul]; exact Nat.le_add_right _ _
  · rw [blen_mul m s h]; exact Nat.le_refl _
/-- no number comes of these -/
def remN (x y : Nat) : Prop := isN x = true ∨ isN y = true ∨ isI x = true ∨ FloatKind.f64.format.order y 0 = some .eq
set_option maxRecDepth 100000 in
set_option maxHeartbeats 2000000 in
theorem lRemN (x y : Nat) (w : World) (hx : U x) (hy : U y) (h : remN x y) : Calls Tryz.prog 15 #[.float .f64 x, .float .f64 y] w fun e w' => e = .returned (.float .f64 QN) ∧ w = w' := by
  have C1 := Lib.hid (fun w => c129 x w hx)
  have C2 := Lib.hid (fun w => c129 y w hy)
  have C3 := Lib.hid (fun w => c130 x w hx)
  have C5 := Lib.hid (fun w => c135 w)
  have H : isN x = true ∨ (isN x = false ∧ isN y = true) ∨ (isN x = false ∧ isN y = false ∧ isI x = true) ∨ (isN x = false ∧ isN y = false ∧ isI x = false ∧ FloatKind.f64.format.order y 0 = some .eq) := by
    rcases h with h | h | h | h
    · exact .inl h
    · cases e : isN x
      · exact .inr (.inl ⟨rfl, h⟩)
      · exact .inl rfl
    · cases e : isN x
      · cases e2 : isN y
        · exact .inr (.inr (.inl ⟨rfl, rfl, h⟩))
        · exact .inr (.inl ⟨rfl, rfl⟩)
      · exact .inl rfl
    · cases e : isN x
      · cases e2 : isN y
        · cases e3 : isI x
          · exact .inr (.inr (.inr ⟨rfl, rfl, rfl, h⟩))
          · exact .inr (.inr (.inl ⟨rfl, rfl, rfl⟩))
        · exact .inr (.inl ⟨rfl, rfl⟩)
      · exact .inl rfl
  clear h hx hy
  rcases H with h1 | ⟨h1, h2⟩ | ⟨h1, h2, h3⟩ | ⟨h1, h2, h3, h4⟩
  · rw [h1] at C1
    go_enter Tryz.func15, Tryz.ntmps15
    go_wp2_with (first
      | (go_at_call 34; refine (C1.out _).mono ?_; rintro e w' ⟨rfl, rfl⟩)
      | (go_at_call 36; refine (C5.out _).mono ?_; rintro e w' ⟨rfl, rfl⟩))
    go_ret
    exact ⟨rfl, rfl⟩
  · rw [h1] at C1
    rw [h2] at C2
    go_enter Tryz.func15, Tryz.ntmps15
    go_wp2_with (first
      | (go_at_call 34; with_reducible refine (C1.out _).mono ?_; rintro e w' ⟨rfl, rfl⟩)
      | (go_at_call 34; with_reducible refine (C2.out _).mono ?_; rintro e w' ⟨rfl, rfl⟩)
      | (go_at_call 36; refine (C5.out _).mono ?_; rintro e w' ⟨rfl, rfl⟩))
    go_ret
    exact ⟨rfl, rfl⟩
  · rw [h1] at C1
    rw [h2] at C2
    rw [h3] at C3
    go_enter Tryz.func15, Tryz.ntmps15
    go_wp2_with (first
      | (go_at_call 34; with_reducible refine (C1.out _).mono ?_; rintro e w' ⟨rfl, rfl⟩)
      | (go_at_call 34; with_reducible refine (C2.out _).mono ?_; rintro e w' ⟨rfl, rfl⟩)
      | (go_at_call 35; refine (C3.out _).mono ?_; rintro e w' ⟨rfl, rfl⟩)
      | (go_at_call 36; refine (C5.out _).mono ?_; rintro e w' ⟨rfl, rfl⟩))
    go_ret
    exact ⟨rfl, rfl⟩
  · rw [h1] at C1
    rw [h2] at C2
    rw [h3] at C3
    go_enter Tryz.func15, Tryz.ntmps15
    go_wp2_with (first
      | (go_at_call 34; with_reducible refine (C1.out _).mono ?_; rintro e w' ⟨rfl, rfl⟩)
      | (go_at_call 34; with_reducible refine (C2.out _).mono ?_; rintro e w' ⟨rfl, rfl⟩)
      | (go_at_call 35; refine (C3.out _).mono ?_; rintro e w' ⟨rfl, rfl⟩)
      | (go_at_call 36; refine (C5.out _).mono ?_; rintro e w' ⟨rfl, rfl⟩))
    go_ret
    exact ⟨rfl, rfl⟩
set_option maxRecDepth 100000 in
set_option maxHeartbeats 2000000 in
theorem lRemI (x y : Nat) (w : World) (hx : U x) (hy : U y) (h : ¬ remN x y) (hi : isI y = true) : Calls Tryz.prog 15 #[.float .f64 x, .float .f64 y] w fun e w' => e = .returned (.float .f64 x) ∧ w = w' := by
  have C1 := Lib.hid (fun w => c129 x w hx)
  have C2 := Lib.hid (fun w => c129 y w hy)
  have C3 := Lib.hid (fun w => c130 x w hx)
  have C4 := Lib.hid (fun w => c130 y w hy)
  have h1 : isN x = false := by cases e : isN x; rfl; exact absurd (.inl e) h
  have h2 : isN y = false := by cases e : isN y; rfl; exact absurd (.inr (.inl e)) h
  have h3 : isI x = false := by cases e : isI x; rfl; exact absurd (.inr (.inr (.inl e))) h
  have h4 : ¬ FloatKind.f64.format.order y 0 = some .eq := fun e => h (.inr (.inr (.inr e)))
  have h5 : (FloatKind.f64.format.order y 0 == some .eq) = false := beq_eq_false_iff_ne.2 h4
  rw [h1] at C1
  rw [h2] at C2
  rw [h3] at C3
  rw [hi] at C4
  clear h h1 h2 h3 hi hx hy
  go_enter Tryz.func15, Tryz.ntmps15
  go_wp2_with (first
    | (go_at_call 34; with_reducible refine (C1.out _).mono ?_; rintro e w' ⟨rfl, rfl⟩)
    | (go_at_call 34; with_reducible refine (C2.out _).mono ?_; rintro e w' ⟨rfl, rfl⟩)
    | (go_at_call 35; with_reducible refine (C3.out _).mono ?_; rintro e w' ⟨rfl, rfl⟩)
    | (go_at_call 35; with_reducible refine (C4.out _).mono ?_; rintro e w' ⟨rfl, rfl⟩))
  go_ret
  exact ⟨rfl, rfl⟩
set_option maxRecDepth 100000 in
set_option maxHeartbeats 2000000 in
theorem lRemF (x y : Nat) (w : World) (hx : U x) (hy : U y) (h : ¬ remN x y) (hi : isI y = false) : Calls Tryz.prog 15 #[.float .f64 x, .float .f64 y] w fun e w' => e = .returned (.float .f64 (remF x y)) ∧ Below w.heap.size w w' := by
  have C1 := Lib.hid (fun w => c129 x w hx)
  have C2 := Lib.hid (fun w => c129 y w hy)
  have C3 := Lib.hid (fun w => c130 x w hx)
  have C4 := Lib.hid (fun w => c130 y w hy)
  have h1 : isN x = false := by cases e : isN x; rfl; exact absurd (.inl e) h
  have h2 : isN y = false := by cases e : isN y; rfl; exact absurd (.inr (.inl e)) h
  have h3 : isI x = false := by cases e : isI x; rfl; exact absurd (.inr (.inr (.inl e))) h
  have h4 : ¬ FloatKind.f64.format.order y 0 = some .eq := fun e => h (.inr (.inr (.inr e)))
  have h5 : (FloatKind.f64.format.order y 0 == some .eq) = false := beq_eq_false_iff_ne.2 h4
  have fx := fin_of x h1 h3
  have fy := fin_of y h2 hi
  have hp := pM_pos (rg y) (fun e => h4 (order_zero y hy h2 e))
  have CB := Lib.hid (fun w => lBoth x y w hx hy fx fy)
  have CS := Lib.hid (fun w => lSignbit x w hx)
  have l1 := pE_le _ fx
  have l2 := pE_le _ fy
  have hA : blen (pM (rg x) * 2 ^ (pE (rg x) - mE2 x y)) ≤ 3000 := Nat.le_trans (blen_shl _ _) (by have := blen_lt _ _ (pM_lt (rg x)); omega)
  have hB : blen (pM (rg y) * 2 ^ (pE (rg y) - mE2 x y)) ≤ 3000 := Nat.le_trans (blen_shl _ _) (by have := blen_lt _ _ (pM_lt (rg y)); omega)
  have hB0 : 0 < pM (rg y) * 2 ^ (pE (rg y) - mE2 x y) := Nat.mul_pos hp (Nat.two_pow_pos _)
  have NR := near_rem x y
  have hE : mE2 x y ≤ 2045 := Nat.le_trans (Nat.min_le_left _ _) l1
  unfold remF
  rw [← NR]
  rw [h1] at C1
  rw [h2] at C2
  rw [h3] at C3
  rw [hi] at C4
  clear h h1 h2 h3 hi hx hy fx fy hp NR l1 l2
  generalize pM (rg x) * 2 ^ (pE (rg x) - mE2 x y) = A at *
  generalize pM (rg y) * 2 ^ (pE (rg y) - mE2 x y) = B at *
  generalize mE2 x y = E0 at *
  have hR : blen (A % B) ≤ 4000 := Nat.le_trans (blen_mono (Nat.mod_le _ _)) (by omega)
  have CQ := Lib.hid (fun (w : World) v u (hv : NV w v A) (hu : NV w u B) => c39 hv hu hB0 (by omega) (by omega))
  have CN := Lib.hid (fun (w : World) v (hv : NV w v (A % B)) => lNear (sg x) hv hR (show -1074 ≤ (E0 : Int) - 1074 by omega) (by omega))
  clear hA hB hB0 hR hE
  generalize min (near (A % B) ((E0 : Int) - 1074)) INF = r at *
  go_enter Tryz.func15, Tryz.ntmps15
  go_wp2_with (first
    | (go_at_call 34; with_reducible refine (C1.out _).mono ?_; rintro e w' ⟨rfl, rfl⟩)
    | (go_at_call 34; with_reducible refine (C2.out _).mono ?_; rintro e w' ⟨rfl, rfl⟩)
    | (go_at_call 35; with_reducible refine (C3.out _).mono ?_; rintro e w' ⟨rfl, rfl⟩)
    | (go_at_call 35; with_reducible refine (C4.out _).mono ?_; rintro e w' ⟨rfl, rfl⟩)
    | (go_at_call 38; refine (CB.out _).mono ?_; rintro e w1 ⟨hb1, v, u, rfl, hv, hu⟩; have I := Lib.hid (And.intro hb1 (And.intro hv hu)); clear hb1 hv hu CB)
    | (go_at_call 39; refine (CQ.out _ _ _ I.out.2.1 I.out.2.2).mono ?_; rintro e w2 ⟨hb2, v1, v2, rfl, _, hv2⟩; have J := Lib.hid (And.intro (I.out.1.trans (hb2.mono I.out.1.size)) hv2); clear hb2 hv2 CQ)
    | (go_at_call 60; refine (CS.out _).mono ?_; rintro e w' ⟨rfl, rfl⟩)
    | (go_at_call 44; refine (CN.out _ _ J.out.2).mono ?_; rintro e w3 ⟨rfl, hb3⟩; have L := Lib.hid (J.out.1.trans (hb3.mono J.out.1.size)); clear hb3 CN))
  go_ret
  exact ⟨rfl, L.out⟩
end Go.Proofs.YthohhepoddnbnaaGreatDoor
