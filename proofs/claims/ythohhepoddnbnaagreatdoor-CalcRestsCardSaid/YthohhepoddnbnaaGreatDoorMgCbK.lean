/- calc: Mod of numbers. galleyref14: Mod of what is no number, of what is infinite. -/
import Derived.Test.YthohhepoddnbnaaGreatDoorMgCbG
namespace Go.Proofs.YthohhepoddnbnaaGreatDoor
open Go.RowKit Fl

theorem c61 {w : World} {v u : Value} {x y : Nat} (hv : NV w v x) (hu : NV w u y) (hyx : y ≤ x) (hs : blen x ≤ 64000) :
    Calls Tryz.prog 61 #[v, u] w fun e w' => Below w.heap.size w w' ∧ ∃ v', e = .returned v' ∧ NV w' v' (x - y) :=
  (c61b hv hu hyx hs).mono fun _ _ ⟨a, v', b, c, _⟩ => ⟨a, v', b, c⟩
theorem rem_units (x y : Nat) : pM (rg x) * 2 ^ (pE (rg x) - mE2 x y) % (pM (rg y) * 2 ^ (pE (rg y) - mE2 x y)) * 2 ^ mE2 x y = Fl.val 52 (rg x) % Fl.val 52 (rg y) ∧ pM (rg y) * 2 ^ (pE (rg y) - mE2 x y) * 2 ^ mE2 x y = Fl.val 52 (rg y) := by
  rw [val_parts, val_parts]
  rw [← Nat.mul_mod_mul_right, Nat.mul_assoc, Nat.mul_assoc, ← Nat.pow_add, ← Nat.pow_add]
  have h1 : mE2 x y ≤ pE (rg x) := Nat.min_le_left _ _
  have h2 : mE2 x y ≤ pE (rg y) := Nat.min_le_right _ _
  rw [Nat.sub_add_cancel h1, Nat.sub_add_cancel h2]
  exact ⟨rfl, rfl⟩
theorem near_sub (x y : Nat) : min (near (pM (rg y) * 2 ^ (pE (rg y) - mE2 x y) - pM (rg x) * 2 ^ (pE (rg x) - mE2 x y) % (pM (rg y) * 2 ^ (pE (rg y) - mE2 x y))) ((mE2 x y : Int) - 1074)) INF = rnd (Fl.val 52 (rg y) - Fl.val 52 (rg x) % Fl.val 52 (rg y)) := by
  have h := rem_units x y
  unfold near rnd
  have e1 : ((mE2 x y : Int) - 1074 + 1074).toNat = mE2 x y := by omega
  have e2 : (-1074 - ((mE2 x y : Int) - 1074)).toNat = 0 := by omega
  rw [e1, e2, Nat.sub_mul, h.1, h.2]
theorem rem_zero (x y : Nat) : pM (rg x) * 2 ^ (pE (rg x) - mE2 x y) % (pM (rg y) * 2 ^ (pE (rg y) - mE2 x y)) = 0 ↔ Fl.val 52 (rg x) % Fl.val 52 (rg y) = 0 := by
  have h := (rem_units x y).1
  rw [← h]
  constructor
  · intro h0; rw [h0, Nat.zero_mul]
  · intro h0
    rcases Nat.mul_eq_zero.1 h0 with h1 | h1
    · exact h1
    · have := Nat.two_pow_pos (mE2 x y); omega
set_option maxRecDepth 100000 in
set_option maxHeartbeats 4000000 in
theorem lModF (x y : Nat) (w : World) (hx : U x) (hy : U y) (h : ¬ remN x y) (hi : isI y = false) : Calls Tryz.prog 16 #[.float .f64 x, .float .f64 y] w fun e w' => e = .returned (.float .f64 (modF x y)) ∧ Below w.heap.size w w' := by
  have C1 := Lib.hid (fun w => c129 x w hx)
  have C2 := Lib.hid (fun w => c129 y w hy)
  have C3 := Lib.hid (fun w => c130 x w hx)
  have C4 := Lib.hid (fun w => c130 y w hy)
  have h1 : isN x = false := by cases e : isN x; rfl; exact absurd (.inl e) h
  have h2 : isN y = false := by cases e : isN y; rfl; exact absurd (.inr (.inl e)) h
  have h3 : isI x = false := by cases e : isI x; rfl; exact absurd (.inr (.inr (.inl e))) h
  have h4 : ¬ FloatKind.f64.format.order y 0 = some .eq := fun e => h (.inr (.inr (.inr e)))
  have h5 : (FloatKind.f64.format.order y 0 == some .eq) = false := beq_eq_false_iff_ne.2 h4
  have fx := fin_of x h1 h3
  have fy := fin_of y h2 hi
  have hp := pM_pos (rg y) (fun e => h4 (order_zero y hy h2 e))
  have CB := Lib.hid (fun w => lBoth x y w hx hy fx fy)
  have S1 := Lib.hid (fun w => lSignbit x w hx)
  have S2 := Lib.hid (fun w => lSignbit y w hy)
  have l1 := pE_le _ fx
  have l2 := pE_le _ fy
  have hA : blen (pM (rg x) * 2 ^ (pE (rg x) - mE2 x y)) ≤ 3000 := Nat.le_trans (blen_shl _ _) (by have := blen_lt _ _ (pM_lt (rg x)); omega)
  have hB : blen (pM (rg y) * 2 ^ (pE (rg y) - mE2 x y)) ≤ 3000 := Nat.le_trans (blen_shl _ _) (by have := blen_lt _ _ (pM_lt (rg y)); omega)
  have hB0 : 0 < pM (rg y) * 2 ^ (pE (rg y) - mE2 x y) := Nat.mul_pos hp (Nat.two_pow_pos _)
  have NR := near_rem x y
  have NS := near_sub x y
  have hM : modN x y = if sg x = sg y ∨ Fl.val 52 (rg x) % Fl.val 52 (rg y) = 0 then Fl.val 52 (rg x) % Fl.val 52 (rg y) else Fl.val 52 (rg y) - Fl.val 52 (rg x) % Fl.val 52 (rg y) := rfl
  have hZ := rem_zero x y
  have hE : mE2 x y ≤ 2045 := Nat.le_trans (Nat.min_le_left _ _) l1
  unfold modF
  rw [h1] at C1
  rw [h2] at C2
  rw [h3] at C3
  rw [hi] at C4
  clear h h1 h2 h3 hi hx hy fx fy hp l1 l2
  rw [hM]
  clear hM
  generalize Fl.val 52 (rg x) % Fl.val 52 (rg y) = R at *
  generalize Fl.val 52 (rg y) = Y at *
  generalize pM (rg x) * 2 ^ (pE (rg x) - mE2 x y) = A at *
  generalize pM (rg y) * 2 ^ (pE (rg y) - mE2 x y) = B at *
  generalize mE2 x y = E0 at *
  generalize sg x = s1 at *
  generalize sg y = s2 at *
  have hle : A % B ≤ B := Nat.le_of_lt (Nat.mod_lt _ hB0)
  have hR : blen (A % B) ≤ 4000 := Nat.le_trans (blen_mono hle) (by omega)
  have hD : blen (B - A % B) ≤ 4000 := Nat.le_trans (blen_mono (Nat.sub_le _ _)) (by omega)
  have CQ := Lib.hid (fun (w : World) v u (hv : NV w v A) (hu : NV w u B) => c39 hv hu hB0 (by omega) (by omega))
  have CD := Lib.hid (fun (w : World) v u (hv : NV w v B) (hu : NV w u (A % B)) => c61 hv hu hle (by omega))
  by_cases hz : A % B = 0
  · rw [if_pos (.inr (hZ.1 hz)), ← NR]
    have CN := Lib.hid (fun (w : World) v (hv : NV w v (A % B)) => lNear s2 hv hR (show -1074 ≤ (E0 : Int) - 1074 by omega) (by omega))
    have HZ0 := Lib.hid hz
    clear hA hB hB0 hR hE hD hle NR NS hZ hz CD
    generalize min (near (A % B) ((E0 : Int) - 1074)) INF = r at *
    go_enter Tryz.func16, Tryz.ntmps16
    go_wp2_with (first
      | (go_at_call 34; with_reducible refine (C1.out _).mono ?_; rintro e w' ⟨rfl, rfl⟩)
      | (go_at_call 34; with_reducible refine (C2.out _).mono ?_; rintro e w' ⟨rfl, rfl⟩)
      | (go_at_call 35; with_reducible refine (C3.out _).mono ?_; rintro e w' ⟨rfl, rfl⟩)
      | (go_at_call 35; with_reducible refine (C4.out _).mono ?_; rintro e w' ⟨rfl, rfl⟩)
      | (go_at_call 60; with_reducible refine (S1.out _).mono ?_; rintro e w' ⟨rfl, rfl⟩)
      | (go_at_call 60; with_reducible refine (S2.out _).mono ?_; rintro e w' ⟨rfl, rfl⟩)
      | (go_at_call 38; refine (CB.out _).mono ?_; rintro e w1 ⟨hb1, v, u, rfl, hv, hu⟩; have I := Lib.hid (And.intro hb1 (And.intro hv hu)); clear hb1 hv hu CB)
      | (go_at_call 39; refine (CQ.out _ _ _ I.out.2.1 I.out.2.2).mono ?_; rintro e w2 ⟨hb2, v1, v2, rfl, _, hv2⟩; have J := Lib.hid (And.intro (I.out.1.trans (hb2.mono I.out.1.size)) (And.intro hv2 (I.out.2.2.below hb2))); obtain ⟨A', m, c', rfl, hm⟩ := hv2.len; have hm0 : m = 0 := hm.2 HZ0.out; subst hm0; clear hb2 hv2 hm CQ I)
      | (go_at_call 61; refine (CD.out _ _ _ J.out.2.2 J.out.2.1).mono ?_; rintro e w4 ⟨hb4, v4, rfl, hv4⟩; have K := Lib.hid (And.intro (J.out.1.trans (hb4.mono J.out.1.size)) hv4); clear hb4 hv4 CD)
      | (go_at_call 44; refine (CN.out _ _ J.out.2.1).mono ?_; rintro e w3 ⟨rfl, hb3⟩; have L := Lib.hid (J.out.1.trans (hb3.mono J.out.1.size)); clear hb3 CN))
    go_ret
    exact ⟨rfl, L.out⟩
  · have HZ0 := Lib.hid hz
    by_cases hs : s1 = s2
    · rw [if_pos (.inl hs), ← NR]
      have CN := Lib.hid (fun (w : World) v (hv : NV w v (A % B)) => lNear s2 hv hR (show -1074 ≤ (E0 : Int) - 1074 by omega) (by omega))
      clear hA hB hB0 hR hE hD hle NR NS hZ hz CD
      subst hs
      have q : (s1 == s1) = true := beq_self_eq_true s1
      generalize min (near (A % B) ((E0 : Int) - 1074)) INF = r at *
      go_enter Tryz.func16, Tryz.ntmps16
      go_wp2_with (first
        | (go_at_call 34; with_reducible refine (C1.out _).mono ?_; rintro e w' ⟨rfl, rfl⟩)
        | (go_at_call 34; with_reducible refine (C2.out _).mono ?_; rintro e w' ⟨rfl, rfl⟩)
        | (go_at_call 35; with_reducible refine (C3.out _).mono ?_; rintro e w' ⟨rfl, rfl⟩)
        | (go_at_call 35; with_reducible refine (C4.out _).mono ?_; rintro e w' ⟨rfl, rfl⟩)
        | (go_at_call 60; with_reducible refine (S1.out _).mono ?_; rintro e w' ⟨rfl, rfl⟩)
        | (go_at_call 60; with_reducible refine (S2.out _).mono ?_; rintro e w' ⟨rfl, rfl⟩)
        | (go_at_call 38; refine (CB.out _).mono ?_; rintro e w1 ⟨hb1, v, u, rfl, hv, hu⟩; have I := Lib.hid (And.intro hb1 (And.intro hv hu)); clear hb1 hv hu CB)
        | (go_at_call 39; refine (CQ.out _ _ _ I.out.2.1 I.out.2.2).mono ?_; rintro e w2 ⟨hb2, v1, v2, rfl, _, hv2⟩; have J := Lib.hid (And.intro (I.out.1.trans (hb2.mono I.out.1.size)) (And.intro hv2 (I.out.2.2.below hb2))); obtain ⟨A', m, c', rfl, hm⟩ := hv2.len; have hm0 : 0 < m := Nat.pos_of_ne_zero (fun e => HZ0.out (hm.1 e)); clear hb2 hv2 hm CQ I)
        | (go_at_call 61; refine (CD.out _ _ _ J.out.2.2 J.out.2.1).mono ?_; rintro e w4 ⟨hb4, v4, rfl, hv4⟩; have K := Lib.hid (And.intro (J.out.1.trans (hb4.mono J.out.1.size)) hv4); clear hb4 hv4 CD)
        | (go_at_call 44; refine (CN.out _ _ J.out.2.1).mono ?_; rintro e w3 ⟨rfl, hb3⟩; have L := Lib.hid (J.out.1.trans (hb3.mono J.out.1.size)); clear hb3 CN))
      go_ret
      exact ⟨rfl, L.out⟩
    · rw [if_neg (fun e => e.elim hs (fun e => hz (hZ.2 e))), ← NS]
      have CN := Lib.hid (fun (w : World) v (hv : NV w v (B - A % B)) => lNear s2 hv hD (show -1074 ≤ (E0 : Int) - 1074 by omega) (by omega))
      clear hA hB hB0 hR hE hD hle NR NS hZ hz
      have q : (s1 == s2) = false := beq_eq_false_iff_ne.2 hs
      clear hs
      generalize min (near (B - A % B) ((E0 : Int) - 1074)) INF = r at *
      go_enter Tryz.func16, Tryz.ntmps16
      go_wp2_with (first
        | (go_at_call 34; with_reducible refine (C1.out _).mono ?_; rintro e w' ⟨rfl, rfl⟩)
        | (go_at_call 34; with_reducible refine (C2.out _).mono ?_; rintro e w' ⟨rfl, rfl⟩)
        | (go_at_call 35; with_reducible refine (C3.out _).mono ?_; rintro e w' ⟨rfl, rfl⟩)
        | (go_at_call 35; with_reducible refine (C4.out _).mono ?_; rintro e w' ⟨rfl, rfl⟩)
        | (go_at_call 60; with_reducible refine (S1.out _).mono ?_; rintro e w' ⟨rfl, rfl⟩)
        | (go_at_call 60; with_reducible refine (S2.out _).mono ?_; rintro e w' ⟨rfl, rfl⟩)
        | (go_at_call 38; refine (CB.out _).mono ?_; rintro e w1 ⟨hb1, v, u, rfl, hv, hu⟩; have I := Lib.hid (And.intro hb1 (And.intro hv hu)); clear hb1 hv hu CB)
        | (go_at_call 39; refine (CQ.out _ _ _ I.out.2.1 I.out.2.2).mono ?_; rintro e w2 ⟨hb2, v1, v2, rfl, _, hv2⟩; have J := Lib.hid (And.intro (I.out.1.trans (hb2.mono I.out.1.size)) (And.intro hv2 (I.out.2.2.below hb2))); obtain ⟨A', m, c', rfl, hm⟩ := hv2.len; have hm0 : 0 < m := Nat.pos_of_ne_zero (fun e => HZ0.out (hm.1 e)); clear hb2 hv2 hm CQ I)
        | (go_at_call 61; refine (CD.out _ _ _ J.out.2.2 J.out.2.1).mono ?_; rintro e w4 ⟨hb4, v4, rfl, hv4⟩; have K := Lib.hid (And.intro (J.out.1.trans (hb4.mono J.out.1.size)) hv4); clear hb4 hv4 CD)
        | (go_at_call 44; refine (CN.out _ _ K.out.2).mono ?_; rintro e w3 ⟨rfl, hb3⟩; have L := Lib.hid (K.out.1.trans (hb3.mono K.out.1.size)); clear hb3 CN))
      go_ret
      exact ⟨rfl, L.out⟩
end Go.Proofs.YthohhepoddnbnaaGreatDoor

namespace Go.Proofs.YthohhepoddnbnaaGreatDoor
open Go.RowKit Fl

set_option maxRecDepth 100000 in
set_option maxHeartbeats 2000000 in
theorem rModN (x y : Nat) (w : World) (hx : U x) (hy : U y) (h : remN x y) : Calls Tryz.prog 19 #[.float .f64 x, .float .f64 y] w fun e w' => e = .returned (.float .f64 QN) ∧ w = w' := by
  have C3 := Lib.hid (fun w => c130 x w hx)
  have C4 := Lib.hid (fun w => c130 y w hy)
  have C5 := Lib.hid (fun w => c135 w)
  have S1 := Lib.hid (fun w => lNeg x w hx)
  have S2 := Lib.hid (fun w => lNeg y w hy)
  have o1 := ord_self x hx
  have o2 := ord_self y hy
  have H := remN_cases h
  clear h hx hy
  generalize sg x = s1 at *
  generalize sg y = s2 at *
  rcases H with h1 | ⟨h1, h2⟩ | ⟨h1, h2, h3⟩ | ⟨h1, h2, h3, h4⟩
  · rw [h1, if_pos rfl] at o1
    clear o2
    go_enter Tryz.func19, Tryz.ntmps19
    go_wp2_with (first
      | (go_at_call 35; with_reducible refine (C3.out _).mono ?_; rintro e w' ⟨rfl, rfl⟩)
      | (go_at_call 35; with_reducible refine (C4.out _).mono ?_; rintro e w' ⟨rfl, rfl⟩)
      | (go_at_call 49; with_reducible refine (S1.out _).mono ?_; rintro e w' ⟨rfl, rfl⟩)
      | (go_at_call 49; with_reducible refine (S2.out _).mono ?_; rintro e w' ⟨rfl, rfl⟩)
      | (go_at_call 36; refine (C5.out _).mono ?_; rintro e w' ⟨rfl, rfl⟩))
    go_ret
    exact ⟨rfl, rfl⟩
  · rw [h1, if_neg (by decide)] at o1
    rw [h2, if_pos rfl] at o2
    go_enter Tryz.func19, Tryz.ntmps19
    go_wp2_with (first
      | (go_at_call 35; with_reducible refine (C3.out _).mono ?_; rintro e w' ⟨rfl, rfl⟩)
      | (go_at_call 35; with_reducible refine (C4.out _).mono ?_; rintro e w' ⟨rfl, rfl⟩)
      | (go_at_call 49; with_reducible refine (S1.out _).mono ?_; rintro e w' ⟨rfl, rfl⟩)
      | (go_at_call 49; with_reducible refine (S2.out _).mono ?_; rintro e w' ⟨rfl, rfl⟩)
      | (go_at_call 36; refine (C5.out _).mono ?_; rintro e w' ⟨rfl, rfl⟩))
    go_ret
    exact ⟨rfl, rfl⟩
  · rw [h1, if_neg (by decide)] at o1
    rw [h2, if_neg (by decide)] at o2
    rw [h3] at C3
    go_enter Tryz.func19, Tryz.ntmps19
    go_wp2_with (first
      | (go_at_call 35; with_reducible refine (C3.out _).mono ?_; rintro e w' ⟨rfl, rfl⟩)
      | (go_at_call 35; with_reducible refine (C4.out _).mono ?_; rintro e w' ⟨rfl, rfl⟩)
      | (go_at_call 49; with_reducible refine (S1.out _).mono ?_; rintro e w' ⟨rfl, rfl⟩)
      | (go_at_call 49; with_reducible refine (S2.out _).mono ?_; rintro e w' ⟨rfl, rfl⟩)
      | (go_at_call 36; refine (C5.out _).mono ?_; rintro e w' ⟨rfl, rfl⟩))
    go_ret
    exact ⟨rfl, rfl⟩
  · rw [h1, if_neg (by decide)] at o1
    rw [h2, if_neg (by decide)] at o2
    rw [h3] at C3
    go_enter Tryz.func19, Tryz.ntmps19
    go_wp2_with (first
      | (go_at_call 35; with_reducible refine (C3.out _).mono ?_; rintro e w' ⟨rfl, rfl⟩)
      | (go_at_call 35; with_reducible refine (C4.out _).mono ?_; rintro e w' ⟨rfl, rfl⟩)
      | (go_at_call 49; with_reducible refine (S1.out _).mono ?_; rintro e w' ⟨rfl, rfl⟩)
      | (go_at_call 49; with_reducible refine (S2.out _).mono ?_; rintro e w' ⟨rfl, rfl⟩)
      | (go_at_call 36; refine (C5.out _).mono ?_; rintro e w' ⟨rfl, rfl⟩))
    go_ret
    exact ⟨rfl, rfl⟩
set_option maxRecDepth 100000 in
set_option maxHeartbeats 2000000 in
theorem rModI (x y : Nat) (w : World) (hx : U x) (hy : U y) (h : ¬ remN x y) (hi : isI y = true) : Calls Tryz.prog 19 #[.float .f64 x, .float .f64 y] w fun e w' => e = .returned (.float .f64 (if sg x = sg y then x else QN)) ∧ w = w' := by
  have C3 := Lib.hid (fun w => c130 x w hx)
  have C4 := Lib.hid (fun w => c130 y w hy)
  have C5 := Lib.hid (fun w => c135 w)
  have S1 := Lib.hid (fun w => lNeg x w hx)
  have S2 := Lib.hid (fun w => lNeg y w hy)
  have h1 : isN x = false := by cases e : isN x; rfl; exact absurd (.inl e) h
  have h2 : isN y = false := by cases e : isN y; rfl; exact absurd (.inr (.inl e)) h
  have h3 : isI x = false := by cases e : isI x; rfl; exact absurd (.inr (.inr (.inl e))) h
  have h4 : ¬ FloatKind.f64.format.order y 0 = some .eq := fun e => h (.inr (.inr (.inr e)))
  have h5 : (FloatKind.f64.format.order y 0 == some .eq) = false := beq_eq_false_iff_ne.2 h4
  have o1 : FloatKind.f64.format.order x x = some .eq := by rw [ord_self x hx, h1]; rfl
  have o2 : FloatKind.f64.format.order y y = some .eq := by rw [ord_self y hy, h2]; rfl
  rw [h3] at C3
  rw [hi] at C4
  clear h h1 h2 h3 hi hx hy
  generalize sg x = s1 at *
  generalize sg y = s2 at *
  by_cases hs : s1 = s2
  · rw [if_pos hs]
    subst hs
    have q : (s1 == s1) = true := beq_self_eq_true s1
    go_enter Tryz.func19, Tryz.ntmps19
    go_wp2_with (first
      | (go_at_call 35; with_reducible refine (C3.out _).mono ?_; rintro e w' ⟨rfl, rfl⟩)
      | (go_at_call 35; with_reducible refine (C4.out _).mono ?_; rintro e w' ⟨rfl, rfl⟩)
      | (go_at_call 49; with_reducible refine (S1.out _).mono ?_; rintro e w' ⟨rfl, rfl⟩)
      | (go_at_call 49; with_reducible refine (S2.out _).mono ?_; rintro e w' ⟨rfl, rfl⟩)
      | (go_at_call 36; refine (C5.out _).mono ?_; rintro e w' ⟨rfl, rfl⟩))
    go_ret
    exact ⟨rfl, rfl⟩
  · rw [if_neg hs]
    have q : (s1 == s2) = false := beq_eq_false_iff_ne.2 hs
    go_enter Tryz.func19, Tryz.ntmps19
    go_wp2_with (first
      | (go_at_call 35; with_reducible refine (C3.out _).mono ?_; rintro e w' ⟨rfl, rfl⟩)
      | (go_at_call 35; with_reducible refine (C4.out _).mono ?_; rintro e w' ⟨rfl, rfl⟩)
      | (go_at_call 49; with_reducible refine (S1.out _).mono ?_; rintro e w' ⟨rfl, rfl⟩)
      | (go_at_call 49; with_reducible refine (S2.out _).mono ?_; rintro e w' ⟨rfl, rfl⟩)
      | (go_at_call 36; refine (C5.out _).mono ?_; rintro e w' ⟨rfl, rfl⟩))
    go_ret
    exact ⟨rfl, rfl⟩
end Go.Proofs.YthohhepoddnbnaaGreatDoor
