/- Of, Len, Cmp of whole numbers. Cmp of whole numbers. -/
import Derived.Test.YtlgencbldbpbdaaGreatDoorLgB
import Derived.Test.YtlgencbldbpbdaaGreatDoorMgLen
import Derived.BigQuiet
import Derived.Deep.CutBlock
namespace Go.Proofs.YtlgencbldbpbdaaGreatDoor
open Go.RowKit Fl
theorem BB_pow (m : Nat) : BB ^ m = 2 ^ (64 * m) := by rw [Nat.pow_mul]; rfl
theorem blen_unique {x k : Nat} (h1 : 2 ^ k ≤ x) (h2 : x < 2 ^ (k + 1)) : blen x = k + 1 := by
 have hp : 0 < x := Nat.lt_of_lt_of_le (Nat.pow_pos (by decide)) h1
 have a := le_blen x hp
 have b := lt_blen x
 have c := blen_lt x (k + 1) h2
 rcases Nat.lt_or_ge (blen x) (k + 1) with h | h
 ·have := Nat.pow_le_pow_right (n := 2) (by decide) (show blen x ≤ k by omega)
  omega
 ·omega
theorem blen_pos0 {x : Nat} (h : 0 < x) : 0 < blen x := by
 unfold blen; rw [if_neg (by omega)]; omega
theorem blen_top {r m t : Nat} (hr : r < 2 ^ m) (ht : 0 < t) : blen (r + 2 ^ m * t) = m + blen t := by
 have a := le_blen t ht
 have b := lt_blen t
 have c := blen_pos0 ht
 obtain ⟨k, hk⟩ : ∃ k, blen t = k + 1 := ⟨blen t - 1, by omega⟩
 rw [hk] at a b ⊢
 rw [Nat.add_sub_cancel] at a
 have e1 : 2 ^ (m + k) ≤ r + 2 ^ m * t := by
  rw [Nat.pow_add]
  have := Nat.mul_le_mul_left (2 ^ m) a
  omega
 have e2 : r + 2 ^ m * t < 2 ^ (m + k + 1) := by
  rw [Nat.add_assoc, Nat.pow_add]
  have := Nat.mul_le_mul_left (2 ^ m) (show t + 1 ≤ 2 ^ (k + 1) by omega)
  rw [Nat.mul_add] at this
  omega
 rw [blen_unique e1 e2]
 omega
theorem blen_val {l : List Nat} (h : W64 l) (hl : 0 < l.length) (ht : l.getD (l.length - 1) 0 ≠ 0) : blen (val l) = 64 * (l.length - 1) + blen (l.getD (l.length - 1) 0) := by
 have e := val_take_succ (l := l) (k := l.length - 1) (by omega)
 rw [show l.length - 1 + 1 = l.length by omega, List.take_length] at e
 have h1 := val_lt (h.take (l.length - 1))
 rw [List.length_take, Nat.min_eq_left (by omega)] at h1
 rw [e, BB_pow]
 rw [BB_pow] at h1
 exact blen_top h1 (by omega)
theorem len_small {l : List Nat} (h : W64 l) (hc : Can l) {n : Nat} (hn : blen (val l) ≤ 64 * n) : l.length ≤ n := by
 rcases Nat.eq_zero_or_pos l.length with h0 | h0
 ·omega
 ·have ht := hc.resolve_left (by omega)
  have e := blen_val h h0 ht
  have := blen_pos0 (Nat.pos_of_ne_zero ht)
  omega
set_option maxRecDepth 100000 in
theorem c43 (n : Nat) (w : World) (h : n < BB) : Calls Tryz.prog 244 #[.int .u64 n] w fun e w' => Below w.heap.size w w' ∧ ∃ v, e = .returned v ∧ NV w' v n := by
 by_cases h0 : n = 0
 ·subst h0
  clear h
  go_enter Tryz.func244, Tryz.ntmps244
  go_wp2
  go_ret
  exact ⟨Below.refl _ _, _, rfl, [], ⟨fun x hx => (nomatch hx), .inl ⟨rfl, rfl⟩⟩, .inl rfl, rfl⟩
 ·have hn : ¬ ((n : Int) = 0) := by omega
  have HR : Hid (NV (w.alloc (.cells #[.int .u64 n] 101)) (.slice (some ⟨w.heap.size, 0, none⟩) 1 1) n) := Lib.hid (by
   refine ⟨[n], ⟨fun x hx => by simp at hx; subst hx; exact h, .inr ⟨w.heap.size, 0, 1, rfl, Nat.le_refl _, by decide, by simp, fun j x hj => ?_⟩⟩, .inr (by simpa using h0), by simp [val]⟩
   match j, hj with
   | 0, hj => simp at hj; subst hj; simp)
  have HB : Hid (Below w.heap.size w (w.alloc (.cells #[.int .u64 n] 101))) := Lib.hid ((Below.refl _ _).alloc (Nat.le_refl _) _)
  clear h h0
  go_enter Tryz.func244, Tryz.ntmps244
  go_wp2
  go_ret
  exact ⟨HB.out, _, rfl, HR.out⟩
set_option maxRecDepth 100000 in
theorem c80 {w : World} {v : Value} {n : Nat} (h : NV w v n) (hs : blen n ≤ 64000) : Calls Tryz.prog 251 #[v] w fun e w' => e = .returned (.int .i64 (blen n)) ∧ w = w' := by
 obtain ⟨l, ⟨hW, h⟩, hc, rfl⟩ := h
 have hlen := len_small hW hc (n := 1000) hs
 rcases h with ⟨rfl, rfl⟩ | ⟨b, o, c, rfl, hcl, hcm, hA⟩
 ·clear hW hc hs hlen
  go_enter Tryz.func251, Tryz.ntmps251
  go_wp2
  go_ret
  exact ⟨rfl, rfl⟩
 ·rcases Nat.eq_zero_or_pos l.length with h0 | h0
  ·have e : l = [] := List.eq_nil_of_length_eq_zero h0
   subst e
   clear hW hc hs hlen hA hcl hcm h0
   go_enter Tryz.func251, Tryz.ntmps251
   go_wp2
   go_ret
   exact ⟨rfl, rfl⟩
  ·have ht := hc.resolve_left (by omega)
   have e := Lib.hid (blen_val hW h0 ht)
   obtain ⟨m, hm⟩ : ∃ m, l.length = m + 1 := ⟨l.length - 1, by omega⟩
   rw [hm, Nat.add_sub_cancel] at e ht
   obtain ⟨x, hx⟩ : ∃ x, l[m]? = some x := ⟨l[m]'(by omega), List.getElem?_eq_getElem _⟩
   have hgd : l.getD m 0 = x := by rw [List.getD, hx]; rfl
   rw [hgd] at e
   have kc := hA.2 m x hx
   have hU : U x := by have := hW x (List.mem_of_getElem? hx); unfold U; unfold BB at this; omega
   have hbx : blen x ≤ 64 := blen_lt x 64 (by have := hW x (List.mem_of_getElem? hx); unfold BB at this; omega)
   have hm2 : (m : Int) ≤ 1000 := by omega
   have hmc : (m : Int) ≤ (c : Int) := by omega
   have hbx2 : (blen x : Int) ≤ 64 := by omega
   have C := Lib.hid (fun w => c176 x w hU)
   rw [e.out, hm]
   clear e hgd hx ht hA hcl hcm h0 hW hc hs hlen hU hbx hm
   go_enter Tryz.func251, Tryz.ntmps251
   go_wp2_with (go_at_call 216; refine (C.out _).mono ?_; rintro e w' ⟨rfl, rfl⟩)
   go_ret
   exact ⟨by go_num, rfl⟩
end Go.Proofs.YtlgencbldbpbdaaGreatDoor
namespace Go.Proofs.YtlgencbldbpbdaaGreatDoor
open Go.RowKit Fl
def CmpR (x y : Nat) (r : Int) : Prop := (x < y → r < 0) ∧ (x = y → r = 0) ∧ (y < x → 0 < r)
theorem NA.drew {w : World} {b o : Nat} {l : List Nat} (h : NA w b o l) (n : Nat) : NA (w.drewN n) b o l := ⟨h.1, fun j x hj => h.2 j x hj⟩
theorem NL.drew {w : World} {v : Value} {l : List Nat} (h : NL w v l) (n : Nat) : NL (w.drewN n) v l := by
 obtain ⟨h1, h2⟩ := h
 refine ⟨h1, ?_⟩
 rcases h2 with h2 | ⟨b, o, c, e, h3, h5, h4⟩
 ·exact .inl h2
 ·exact .inr ⟨b, o, c, e, h3, h5, h4.drew n⟩
theorem NV.drew {w : World} {v : Value} {n : Nat} (h : NV w v n) (k : Nat) : NV (w.drewN k) v n := by
 obtain ⟨l, h1, h2, h3⟩ := h
 exact ⟨l, h1.drew k, h2, h3⟩
theorem NL.form {w : World} {v : Value} {l : List Nat} (h : NL w v l) : ∃ A c, v = .slice A l.length c := by
 rcases h.2 with ⟨rfl, rfl⟩ | ⟨b, o, c, rfl, _⟩
 ·exact ⟨none, 0, rfl⟩
 ·exact ⟨_, c, rfl⟩
theorem NL.addr {w : World} {v : Value} {l : List Nat} (h : NL w v l) (hl : 0 < l.length) : ∃ b o c, v = .slice (some ⟨b, o, none⟩) l.length c ∧ l.length ≤ c ∧ c ≤ maxLen ∧ NA w b o l := by
 rcases h.2 with ⟨_, rfl⟩ | h2
 ·simp at hl
 ·exact h2
theorem val_split (l : List Nat) (k : Nat) : val l = val (l.take k) + BB ^ (l.take k).length * val (l.drop k) := by
 rw [← val_append, List.take_append_drop]
theorem cmp_at {a b : List Nat} (ha : W64 a) {i x y : Nat} (hx : a[i]? = some x) (hy : b[i]? = some y) (hxy : x < y) (hd : a.drop (i + 1) = b.drop (i + 1)) : val a < val b := by
 have la : i < a.length := (List.getElem?_eq_some_iff.1 hx).1
 have lb : i < b.length := (List.getElem?_eq_some_iff.1 hy).1
 rw [val_split a (i + 1), val_split b (i + 1), hd]
 have e1 : (a.take (i + 1)).length = i + 1 := by rw [List.length_take]; omega
 have e2 : (b.take (i + 1)).length = i + 1 := by rw [List.length_take]; omega
 rw [e1, e2, val_take_succ la, val_take_succ lb]
 have g1 : a.getD i 0 = x := by rw [List.getD, hx]; rfl
 have g2 : b.getD i 0 = y := by rw [List.getD, hy]; rfl
 rw [g1, g2]
 have h1 := val_lt (ha.take i)
 rw [List.length_take, Nat.min_eq_left (by omega)] at h1
 have h2 : BB ^ i * (x + 1) ≤ BB ^ i * y := Nat.mul_le_mul_left _ hxy
 rw [Nat.mul_add, Nat.mul_one] at h2
 omega
theorem drop_same {a b : List Nat} {i x : Nat} (hx : a[i]? = some x) (hy : b[i]? = some x) (hd : a.drop (i + 1) = b.drop (i + 1)) : a.drop i = b.drop i := by
 have la : i < a.length := (List.getElem?_eq_some_iff.1 hx).1
 have lb : i < b.length := (List.getElem?_eq_some_iff.1 hy).1
 rw [List.drop_eq_getElem_cons la, List.drop_eq_getElem_cons lb, hd, (List.getElem?_eq_some_iff.1 hx).2, (List.getElem?_eq_some_iff.1 hy).2]
set_option maxRecDepth 100000 in
set_option maxHeartbeats 2000000 in
theorem c41 {w : World} {v u : Value} {x y : Nat} (hv : NV w v x) (hu : NV w u y) (hx : blen x ≤ 64000) (hy : blen y ≤ 64000) :
  Calls Tryz.prog 194 #[v, u] w fun e w' => (∃ r, e = .returned (.int .i64 r) ∧ CmpR x y r) ∧ ∃ n, w' = w.drewN n := by
 obtain ⟨a, na, ca, rfl⟩ := hv
 obtain ⟨b, nb, cb, rfl⟩ := hu
 have la := len_small na.1 ca (n := 1000) hx
 have lb := len_small nb.1 cb (n := 1000) hy
 by_cases hne : a.length = b.length
 ·rcases Nat.eq_zero_or_pos a.length with h0 | h0
  ·have ea : a = [] := List.eq_nil_of_length_eq_zero h0
   have eb : b = [] := List.eq_nil_of_length_eq_zero (by omega)
   obtain ⟨A, c, rfl⟩ := na.form
   obtain ⟨A', c', rfl⟩ := nb.form
   subst ea
   subst eb
   clear na nb ca cb hx hy la lb hne h0
   go_enter Tryz.func194, Tryz.ntmps194
   go_wp2
   refine wp_loop_rounds 1 ?_
   rw [rounds_succ]
   go_wp2
   go_ret
   exact ⟨⟨_, rfl, fun h => absurd h (Nat.lt_irrefl _), fun _ => rfl, fun h => absurd h (Nat.lt_irrefl _)⟩, 0, rfl⟩
  ·obtain ⟨p, o, c, rfl, hc, hcm, hA⟩ := na.addr h0
   obtain ⟨p', o', c', rfl, hc', hcm', hA'⟩ := nb.addr (by omega)
   rw [← hne]
   have HA := Lib.hid hA
   have HB := Lib.hid hA'
   have WA := Lib.hid na.1
   have WB := Lib.hid nb.1
   have HN := Lib.hid hne
   have la2 : (a.length : Int) ≤ 1000 := by omega
   have la0 : (1 : Int) ≤ (a.length : Int) := by omega
   have LP := Lib.hid h0
   clear hA hA' na nb ca cb hx hy la lb hne hc hc' hcm hcm' h0
   go_enter Tryz.func194, Tryz.ntmps194
   go_wp2_with fail
   go_loopw [5] (fun i wx => ∃ k : Nat, Hid (k ≤ a.length) ∧ i = .int .i64 ((k : Int) - 1) ∧ Hid (a.drop k = b.drop k) ∧ ∃ n, wx = w.drewN n) (fun i _ => (intOf i + 1).toNat)
   case atStart => exact ⟨a.length, Lib.hid (Nat.le_refl _), rfl, Lib.hid (by rw [List.drop_length, HN.out, List.drop_length]), 0, rfl⟩
   case round =>
    obtain ⟨k, hk, rfl, hd, n, rfl⟩ := hrel
    rcases k with _ | i
    ·have HR : Hid (CmpR (val a) (val b) 0) := Lib.hid (by
      have e : val a = val b := by have := hd.out; simp at this; rw [this]
      rw [e]
      exact ⟨fun h => absurd h (Nat.lt_irrefl _), fun _ => rfl, fun h => absurd h (Nat.lt_irrefl _)⟩)
     go_wp2
     go_ret
     exact ⟨⟨_, rfl, HR.out⟩, _, rfl⟩
    ·have hia : i < a.length := hk.out
     obtain ⟨x, hx⟩ : ∃ x, a[i]? = some x := ⟨a[i], List.getElem?_eq_getElem hia⟩
     obtain ⟨y, hy⟩ : ∃ y, b[i]? = some y := ⟨b[i]'(by rw [← HN.out]; exact hia), List.getElem?_eq_getElem _⟩
     have kx := HA.out.2 i x hx
     have ky := HB.out.2 i y hy
     have hki : (i : Int) < (a.length : Int) := by omega
     have ei : ((i + 1 : Nat) : Int) - 1 = (i : Int) := by omega
     rw [ei]
     have e : (decide ((x : Int) < (y : Int))) = decide (x < y) := by simp
     have X := Lib.hid hx
     have Y := Lib.hid hy
     clear hx hy hia ei
     by_cases h1 : x < y
     ·have hi1 : (x : Int) < (y : Int) := by omega
      have HR : Hid (CmpR (val a) (val b) (-1)) := Lib.hid (by
       have := cmp_at WA.out X.out Y.out h1 hd.out
       exact ⟨fun _ => by decide, fun h => by omega, fun h => by omega⟩)
      clear h1 e
      go_upto_region 6 with fail
      go_quiet (fail)
      go_wp2_with fail
      go_ret
      exact ⟨⟨_, rfl, HR.out⟩, _, by rw [World.drewN_drewN]⟩
     ·have hi1 : ¬ (x : Int) < (y : Int) := by omega
      by_cases h2 : y < x
      ·have hi2 : (y : Int) < (x : Int) := by omega
       have HR : Hid (CmpR (val a) (val b) 1) := Lib.hid (by
        have := cmp_at WB.out Y.out X.out h2 hd.out.symm
        exact ⟨fun h => by omega, fun h => by omega, fun _ => by decide⟩)
       clear h1 h2 e
       go_upto_region 6 with fail
       go_quiet (fail)
       go_upto_region 8 with fail
       go_quiet (fail)
       go_wp2_with fail
       go_ret
       exact ⟨⟨_, rfl, HR.out⟩, _, rfl⟩
      ·have hi2 : ¬ (y : Int) < (x : Int) := by omega
       have hxy : x = y := by omega
       subst hxy
       have D2 : Hid (a.drop i = b.drop i) := Lib.hid (drop_same X.out Y.out hd.out)
       have K2 : Hid (i ≤ a.length) := Lib.hid (by have := hk.out; omega)
       clear h1 h2 e hi2
       go_upto_region 6 with fail
       go_quiet (fail)
       go_upto_region 8 with fail
       go_quiet (fail)
       go_wp2_with fail
       go_roundw
       case rel => exact ⟨i, K2, by go_num, D2, _, rfl⟩
       case measure => simp [intOf]
 ·obtain ⟨A, c, rfl⟩ := na.form
  obtain ⟨A', c', rfl⟩ := nb.form
  have la2 : (a.length : Int) ≤ 1000 := by omega
  have lb2 : (b.length : Int) ≤ 1000 := by omega
  have hne2 : ¬ ((a.length : Int) = (b.length : Int)) := by omega
  have HR : Hid (CmpR (val a) (val b) ((a.length : Int) - (b.length : Int))) := Lib.hid (by
   refine ⟨fun h => ?_, fun h => ?_, fun h => ?_⟩
   ·rcases Nat.lt_or_ge b.length a.length with h1 | h1
    ·have := len_lt nb.1 ca h1; omega
    ·omega
   ·rcases Nat.lt_or_ge b.length a.length with h1 | h1
    ·have := len_lt nb.1 ca h1; omega
    ·have := len_lt na.1 cb (show a.length < b.length by omega); omega
   ·rcases Nat.lt_or_ge a.length b.length with h1 | h1
    ·have := len_lt na.1 cb h1; omega
    ·omega)
  clear na nb ca cb hx hy la lb hne
  go_enter Tryz.func194, Tryz.ntmps194
  go_wp2
  go_ret
  exact ⟨⟨_, rfl, HR.out⟩, 0, rfl⟩
end Go.Proofs.YtlgencbldbpbdaaGreatDoor
