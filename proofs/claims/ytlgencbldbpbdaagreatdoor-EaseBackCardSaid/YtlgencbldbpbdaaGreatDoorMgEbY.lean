/- EaseBack: the walk. The walk of EaseBack, as the card wants it. -/
import Derived.Test.YtlgencbldbpbdaaGreatDoorOpF
import Derived.Test.YtlgencbldbpbdaaGreatDoorMgEbK
import Derived.Test.YtlgencbldbpbdaaGreatDoorMgDhD
import Derived.Deep.DeepCutAuto
namespace Go.Proofs.YtlgencbldbpbdaaGreatDoor
open Go.RowKit Fl
theorem bl_inj {a b : ByteArray} (h : bl a = bl b) : a = b := by
  unfold bl at h
  have h2 := (List.map_inj_right (fun x y h => UInt8.toNat_inj.1 h)).1 h
  cases a with
  | mk a =>
    cases b with
    | mk b =>
      have : a = b := Array.toList_inj.1 h2
      rw [this]
set_option maxRecDepth 100000 in
set_option maxHeartbeats 4000000 in
theorem walkEaseBack (s : ByteArray) (A : Option Addr) (xs : List Nat) (c : Nat) (w : World) (he : EW w) (hA : CS w A (fL xs)) (hx : ∀ x ∈ xs, U x) (hl : xs.length ≤ 9223372036854775807) : Calls Tryz.prog 3 #[.string s, .slice A xs.length c] w fun e w' => e = .returned (.bool true) ∧ Below w.heap.size w w' := by
  have C11 := Lib.hid (k11 w he)
  have HW := Lib.hid he
  have HA := Lib.hid (And.intro hA hx)
  obtain ⟨n, hn⟩ : ∃ n, n = xs.length := ⟨_, rfl⟩
  rw [← hn] at hl ⊢
  have HN := Lib.hid (And.intro hn hl)
  obtain ⟨R, hR⟩ : ∃ R, R = parseF (bl s) := ⟨_, rfl⟩
  have HR := Lib.hid hR
  have C12 := Lib.hid (fun (w1 : World) (h : EW w1) => k12 s w1 h)
  rw [← hR] at C12
  clear he hR hA hx hn
  cases R with
  | none =>
    have D12 : Hid (∀ w1, EW w1 → Calls Tryz.prog 12 #[.string s] w1 fun e w' => BadR w1 e w') := C12
    clear C12
    go_enter Tryz.func3, Tryz.ntmps3
    go_wp2_with (first
      | (go_at_call 11; refine C11.out.mono ?_; rintro e w1 ⟨rfl, hb⟩; have B1 := Lib.hid hb; clear hb)
      | (go_at_call 12; refine (D12.out _ (HW.out.below B1.out)).mono ?_; rintro e w2 ⟨N, rfl, h⟩; have B2 := Lib.hid h.2.2.2.2; clear h))
    go_ret
    exact ⟨rfl, B1.out.trans (B2.out.mono B1.out.size)⟩
  | some z =>
    have D12 : Hid (∀ w1, EW w1 → Calls Tryz.prog 12 #[.string s] w1 fun e w' => OkR w1 z e w') := C12
    clear C12
    have C13 := Lib.hid (fun (b : Nat) (w1 : World) (h : EzAt w1 b z) => k13 b z w1 h)
    by_cases hlen : (textE z).length ≤ 2000
    case neg =>
      have E12 : Hid (∀ (t : ByteArray) (w1 : World), bl t = textE z → EW w1 → Calls Tryz.prog 12 #[.string t] w1 fun e w' => BadR w1 e w') := Lib.hid (fun t w1 ht h => by
        have := k12 t w1 h
        rw [ht, parse_long (by omega)] at this
        exact this)
      have TL : Hid (∀ t : ByteArray, bl t = textE z → (t.size : Int) > 2000) := Lib.hid (fun t ht => by rw [← ht, bl_len] at hlen; omega)
      clear hlen
      go_enter Tryz.func3, Tryz.ntmps3
      go_wp2_with (first
        | (go_at_call 11; refine C11.out.mono ?_; rintro e w1 ⟨rfl, hb⟩; have B1 := Lib.hid hb; clear hb)
        | (go_at_call 12; (with_reducible refine (D12.out _ (HW.out.below B1.out)).mono ?_); rintro e w2 ⟨b, rfl, h⟩; have Z2 := Lib.hid h.2.1; have B2 := Lib.hid h.2.2; clear h)
        | (go_at_call 13; (with_reducible refine (C13.out _ _ Z2.out).mono ?_); rintro e w3 ⟨⟨t, rfl, ht⟩, rfl⟩; have HT := Lib.hid ht; have tl := TL.out t ht; clear ht)
        | (go_at_call 12; (with_reducible refine (E12.out _ _ HT.out ((HW.out.below B1.out).below B2.out)).mono ?_); rintro e w4 ⟨N, rfl, h⟩; have B4 := Lib.hid h.2.2.2.2; clear h))
      go_ret
      have s2 := B1.out.trans (B2.out.mono B1.out.size)
      exact ⟨rfl, s2.trans (B4.out.mono s2.size)⟩
    case pos =>
      have E12 : Hid (∀ (t : ByteArray) (w1 : World), bl t = textE z → EW w1 → Calls Tryz.prog 12 #[.string t] w1 fun e w' => OkR w1 z e w') := Lib.hid (fun t w1 ht h => by
        have := k12 t w1 h
        rw [ht, parse_text HR.out.symm hlen] at this
        exact this)
      have TL : Hid (∀ t : ByteArray, bl t = textE z → ¬ (t.size : Int) > 2000) := Lib.hid (fun t ht => by rw [← ht, bl_len] at hlen; omega)
      clear hlen
      go_enter Tryz.func3, Tryz.ntmps3
      go_upto_region 11 with (first
        | (go_at_call 11; refine C11.out.mono ?_; rintro e w1 ⟨rfl, hb⟩; have B1 := Lib.hid hb; clear hb)
        | (go_at_call 12; (with_reducible refine (D12.out _ (HW.out.below B1.out)).mono ?_); rintro e w2 ⟨b, rfl, h⟩; have Z2 := Lib.hid h.2.1; have B2 := Lib.hid h.2.2; clear h)
        | (go_at_call 13; (with_reducible refine (C13.out _ _ Z2.out).mono ?_); rintro e w3 ⟨⟨t, rfl, ht⟩, rfl⟩; have HT := Lib.hid ht; have tl := TL.out t ht; clear ht)
        | (go_at_call 12; (with_reducible refine (E12.out _ _ HT.out ((HW.out.below B1.out).below B2.out)).mono ?_); rintro e w4 ⟨b', rfl, h⟩; have Z4 := Lib.hid h.2.1; have B4 := Lib.hid h.2.2; clear h)
        | (go_at_call 13; (with_reducible refine (C13.out _ _ Z4.out).mono ?_); rintro e w5 ⟨⟨t', rfl, ht⟩, rfl⟩; obtain rfl : t' = t := bl_inj (ht.trans HT.out.symm); clear ht))
      have S2 := Lib.hid (B1.out.trans (B2.out.mono B1.out.size))
      have S4 := Lib.hid (S2.out.trans (B4.out.mono S2.out.size))
      have Y2 : Hid (EzAt w4 b z) := Lib.hid (Z2.out.below B4.out)
      have A4 := Lib.hid (HA.out.1.below S4.out)
      clear B1 B2 B4 Z2 S2 C11 D12 E12 C13 TL HW HT tl
      go_wp2_with fail
      go_loopw [11] (fun i wx => ∃ (k : Nat), k ≤ n ∧ i = .int .i64 k ∧ Hid (Below w4.heap.size w4 wx)) (fun i _ => n - (Lib.intOf i).toNat)
      case atStart => exact ⟨0, Nat.zero_le _, rfl, Lib.hid (Below.refl _ _)⟩
      case round =>
        obtain ⟨k, hk, rfl, hB⟩ := hrel
        by_cases hlt : k < n
        · have hki : (k : Int) < (n : Int) := by omega
          have hk0 : (0 : Int) ≤ (k : Int) := Int.natCast_nonneg k
          obtain ⟨x, hxk⟩ : ∃ x, xs[k]? = some x := ⟨xs[k]'(by have := HN.out.1; omega), List.getElem?_eq_getElem _⟩
          obtain ⟨b1, o1, rfl, p1, q1⟩ := (A4.out.below hB.out).at (k := k) (x := .float .f64 x) (by unfold fL; rw [List.getElem?_map, hxk]; rfl)
          have ux := HA.out.2 x (List.mem_of_getElem? hxk)
          obtain ⟨P, hP⟩ : ∃ P, P = atP z (pl x) false := ⟨_, rfl⟩
          obtain ⟨P', hP'⟩ : ∃ P, P = atP z (pl x) true := ⟨_, rfl⟩
          have CA : Hid (∀ (b0 : Nat) (w1 : World), EzAt w1 b0 z → Calls Tryz.prog 15 #[.pointer (some ⟨b0, 0, none⟩), .float .f64 x, .bool false] w1 fun e w' => RetR P e ∧ Below w1.heap.size w1 w') := Lib.hid (by rw [hP]; exact fun b0 w1 h => k15 (RV.self ux) b0 z false w1 h)
          have CB : Hid (∀ (b0 : Nat) (w1 : World), EzAt w1 b0 z → Calls Tryz.prog 15 #[.pointer (some ⟨b0, 0, none⟩), .float .f64 x, .bool true] w1 fun e w' => RetR P' e ∧ Below w1.heap.size w1 w') := Lib.hid (by rw [hP']; exact fun b0 w1 h => k15 (RV.self ux) b0 z true w1 h)
          have SA : Hid (∀ (r1 r2 : Nat) (w1 : World) (p : Int), RV r1 p → RV r2 p → Calls Tryz.prog 14 #[.float .f64 r1, .float .f64 r2] w1 fun e w' => e = .returned (.bool true) ∧ w1 = w') := Lib.hid (fun r1 r2 w1 p h1 h2 => by
            have := c32 r1 r2 w1 h1.1 h2.1
            rw [h1.2, h2.2, beq_self_eq_true] at this
            exact this)
          have Y1 := Lib.hid (And.intro (Y2.out.below hB.out) (Z4.out.below hB.out))
          have HP1 := Lib.hid (And.intro p1 hlt)
          clear hP hP' ux hxk p1 hlt hk
          go_upto_region 14 with fail
          go_cut [12] (fun u wy => u = .bool true ∧ Hid (Below wr.heap.size wr wy))
          case first =>
            rename_i JJ QQ HRJ HMK
            have J : Hid (Below wr.heap.size wr wr.drew) := Lib.hid ⟨rfl, rfl, rfl, Nat.le_refl _, fun _ _ => rfl⟩
            have KK : Hid (∀ wy : World, Below wr.heap.size wr wy → wy.cell? ⟨b1, o1 + k, none⟩ = some (.float .f64 x)) := Lib.hid fun wy h => (h.cell (p := ⟨b1, o1 + k, none⟩) HP1.out.1).trans q1
            have g1 := KK.out _ J.out
            go_region_held3 (fun w' => w'.cell? ⟨b1, o1 + k, none⟩ = some (.float .f64 x)) (exact KK.out _ J.out) (first
              | (go_at_call 15; (with_reducible refine (CA.out b _ (Y1.out.1.below J.out)).mono ?_); rintro e w5 ⟨⟨r1, rfl, hr1⟩, hb⟩; replace J := Lib.hid (J.out.trans (hb.mono J.out.size)); have R1 := Lib.hid hr1; clear hb hr1)
              | (go_at_call 15; (with_reducible refine (CA.out b' _ (Y1.out.2.below J.out)).mono ?_); rintro e w6 ⟨⟨r2, rfl, hr2⟩, hb⟩; replace J := Lib.hid (J.out.trans (hb.mono J.out.size)); have R2 := Lib.hid hr2; clear hb hr2)
              | (go_at_call 14; (with_reducible refine (SA.out _ _ _ _ R1.out R2.out).mono ?_); rintro e w7 ⟨rfl, rfl⟩))
            all_goals
              refine HMK _ _ (Met.intro (HRJ _ _ ?_))
              (repeat apply Exists.intro)
              exact ⟨⟨rfl, J⟩, rfl⟩
          case rest =>
          obtain ⟨rfl, hJ⟩ := hcut
          have q2 : wc.cell? ⟨b1, o1 + k, none⟩ = some (.float .f64 x) := (hJ.out.cell (p := ⟨b1, o1 + k, none⟩) HP1.out.1).trans q1
          have HP2 := Lib.hid (Nat.lt_of_lt_of_le HP1.out.1 hJ.out.size)
          have Y3 := Lib.hid (And.intro (Y1.out.1.below hJ.out) (Y1.out.2.below hJ.out))
          have J2 := Lib.hid (hB.out.trans (hJ.out.mono hB.out.size))
          go_upto_region 15 with fail
          go_cut [13] (fun u wy => u = .bool true ∧ Hid (Below wc.heap.size wc wy))
          case first =>
            rename_i JJ QQ HRJ HMK
            have J : Hid (Below wc.heap.size wc wc.drew) := Lib.hid ⟨rfl, rfl, rfl, Nat.le_refl _, fun _ _ => rfl⟩
            have KK : Hid (∀ wy : World, Below wc.heap.size wc wy → wy.cell? ⟨b1, o1 + k, none⟩ = some (.float .f64 x)) := Lib.hid fun wy h => (h.cell (p := ⟨b1, o1 + k, none⟩) HP2.out).trans q2
            have g1 := KK.out _ J.out
            go_region_held3 (fun w' => w'.cell? ⟨b1, o1 + k, none⟩ = some (.float .f64 x)) (exact KK.out _ J.out) (first
              | (go_at_call 15; (with_reducible refine (CB.out b _ (Y3.out.1.below J.out)).mono ?_); rintro e w5 ⟨⟨r1, rfl, hr1⟩, hb⟩; replace J := Lib.hid (J.out.trans (hb.mono J.out.size)); have R1 := Lib.hid hr1; clear hb hr1)
              | (go_at_call 15; (with_reducible refine (CB.out b' _ (Y3.out.2.below J.out)).mono ?_); rintro e w6 ⟨⟨r2, rfl, hr2⟩, hb⟩; replace J := Lib.hid (J.out.trans (hb.mono J.out.size)); have R2 := Lib.hid hr2; clear hb hr2)
              | (go_at_call 14; (with_reducible refine (SA.out _ _ _ _ R1.out R2.out).mono ?_); rintro e w7 ⟨rfl, rfl⟩))
            all_goals
              refine HMK _ _ (Met.intro (HRJ _ _ ?_))
              (repeat apply Exists.intro)
              exact ⟨⟨rfl, J⟩, rfl⟩
          case rest =>
          obtain ⟨rfl, hJ2⟩ := hcut
          have J3 := Lib.hid (J2.out.trans (hJ2.out.mono J2.out.size))
          have hk1 : wrap64 ((k : Int) + 1) = ((k + 1 : Nat) : Int) := by have h1 := HP1.out.2; have h2 := HN.out.2; unfold wrap64; omega
          clear CA CB SA q1 q2
          go_wp2_with fail
          go_roundw
          case rel => exact ⟨k + 1, by have := HP1.out.2; omega, by first | rw [hk1] | rfl, J3⟩
          case measure => have := HP1.out.2; (try rw [hk1]); simp [Lib.intOf]; omega
        · have hki : ¬ (k : Int) < (n : Int) := by omega
          clear hlt
          go_wp2_with fail
          go_ret
          exact ⟨rfl, S4.out.trans (hB.out.mono S4.out.size)⟩
end Go.Proofs.YtlgencbldbpbdaaGreatDoor

namespace Go.Proofs.YtlgencbldbpbdaaGreatDoor
open Go.RowKit Fl
theorem walkBack (W : World) (hL : laidMetH Tryz.prog Rows.easeBackRow.laid W) (hS : W.ShapedOpen Tryz.prog) (s : ByteArray) {p : Prop} (_ : p) (A : Option Addr) (xs : List Nat) (c : Nat) (hA : CS W A (fL xs)) (hl : xs.length ≤ maxLen) (hx : ∀ x ∈ xs, U x) :
    Calls Tryz.prog 3 #[.string s, .slice A xs.length c] W fun e w' => e = .returned (.bool true) ∧ Below W.heap.size W w' :=
  walkEaseBack s A xs c W (ew_back hL hS) hA hx (Nat.le_trans hl (by decide))
end Go.Proofs.YtlgencbldbpbdaaGreatDoor
