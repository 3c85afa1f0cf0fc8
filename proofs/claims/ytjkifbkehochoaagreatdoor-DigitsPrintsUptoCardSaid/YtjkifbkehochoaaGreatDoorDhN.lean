/- The walk of DigitsNears, awake left open. -/
import Derived.Test.YtjkifbkehochoaaGreatDoorMgDhL
import Derived.Deep.RegionHeld3
namespace Go.Proofs.YtjkifbkehochoaaGreatDoor
open Go.RowKit Fl

/-- a row of values in memory -/
def VR (w : World) (A : Option Addr) (l : List Value) : Prop := l = [] ∨ ∃ b o, A = some ⟨b, o, none⟩ ∧ b < w.heap.size ∧ ∀ j x, l[j]? = some x → w.cell? ⟨b, o + j, none⟩ = some x
theorem VR.below {w w' : World} {A : Option Addr} {l : List Value} (h : VR w A l) (hb : Below w.heap.size w w') : VR w' A l := by
  rcases h with h | ⟨b, o, h1, h2, h3⟩
  · exact .inl h
  · exact .inr ⟨b, o, h1, Nat.lt_of_lt_of_le h2 hb.size, fun j x hj => (hb.cell (p := ⟨b, o + j, none⟩) h2).trans (h3 j x hj)⟩
theorem VR.at {w : World} {A : Option Addr} {l : List Value} (h : VR w A l) {k : Nat} {x : Value} (hk : l[k]? = some x) : ∃ b o, A = some ⟨b, o, none⟩ ∧ b < w.heap.size ∧ w.cell? ⟨b, o + k, none⟩ = some x := by
  rcases h with h | ⟨b, o, h1, h2, h3⟩
  · rw [h] at hk; cases hk
  · exact ⟨b, o, h1, h2, h3 k x hk⟩
def SV (ss : List ByteArray) : List Value := ss.map .string
def ZV (zs : List Int) : List Value := zs.map (.int .i64)
set_option maxRecDepth 100000 in
set_option maxHeartbeats 4000000 in
theorem walkNears0 (W : World) (haw : Calls Tryz.prog 9 #[] W fun e w' => e = .returned (.bool true) ∧ Below W.heap.size W w') (A B : Option Addr) (ss : List ByteArray) (zs : List Int) (c d : Nat) (hA : VR W A (SV ss)) (hB : VR W B (ZV zs)) (lc : ss.length ≤ c) (ld : zs.length ≤ d) (ls : c ≤ 1152921504606846976) (lz : d ≤ 1152921504606846976) (hs : ∀ s ∈ ss, s.size ≤ 1000000000) (hz : ∀ z ∈ zs, -9223372036854775808 ≤ z ∧ z ≤ 9223372036854775807) :
    Calls Tryz.prog 6 #[.slice A ss.length c, .slice B zs.length d] W fun e w' => e = .returned (.bool true) ∧ Below W.heap.size W w' := by
  have haw := Lib.hid haw
  have HA := Lib.hid hA
  have HB := Lib.hid hB
  have HS := Lib.hid hs
  have HZ := Lib.hid hz
  have l1 : (ss.length : Int) ≤ 1152921504606846976 := by omega
  have l2 : (zs.length : Int) ≤ 1152921504606846976 := by omega
  clear hA hB hs hz
  go_enter Tryz.func6, Tryz.ntmps6
  go_wp2_with (go_at_call 9; refine haw.out.mono ?_; rintro e w1 ⟨rfl, hb⟩; have I := Lib.hid hb; clear hb)
  go_loopw [6] (fun i wx => ∃ k : Nat, i = .int .i64 k ∧ Hid (k ≤ ss.length ∧ Below W.heap.size W wx)) (fun i _ => ss.length - (intOf i).toNat)
  case atStart => exact ⟨0, rfl, Lib.hid ⟨Nat.zero_le _, I.out⟩⟩
  case round =>
    obtain ⟨k, rfl, hI⟩ := hrel
    have k1 : (k : Int) ≤ (ss.length : Int) := by have := hI.out.1; omega
    by_cases h1 : k < ss.length
    · have i1 : (k : Int) < (ss.length : Int) := by omega
      by_cases h2 : k < zs.length
      · have i2 : (k : Int) < (zs.length : Int) := by omega
        obtain ⟨s, hs⟩ : ∃ s, ss[k]? = some s := ⟨ss[k], List.getElem?_eq_getElem h1⟩
        obtain ⟨z, hz⟩ : ∃ z, zs[k]? = some z := ⟨zs[k], List.getElem?_eq_getElem h2⟩
        obtain ⟨b1, o1, rfl, p1, q1⟩ := (HA.out.below hI.out.2).at (k := k) (x := .string s) (by unfold SV; rw [List.getElem?_map, hs]; rfl)
        obtain ⟨b2, o2, rfl, p2, q2⟩ := (HB.out.below hI.out.2).at (k := k) (x := .int .i64 z) (by unfold ZV; rw [List.getElem?_map, hz]; rfl)
        have sz := HS.out s (List.mem_of_getElem? hs)
        have zz := HZ.out z (List.mem_of_getElem? hz)
        have CL := Lib.hid (fun w => lNear s z w (by omega) zz)
        have CR := Lib.hid (fun w => rNear s z w sz zz)
        have hle := nrW_le (bl s) z
        obtain ⟨x, hx⟩ : ∃ x, x = nrW (bl s) z := ⟨_, rfl⟩
        obtain ⟨y, hy⟩ : ∃ y, y = nrK (bl s) := ⟨_, rfl⟩
        rw [← hx, ← hy] at CL CR
        rw [← hx] at hle
        have CS := Lib.hid (fun w => rSame x w hle)
        have HK := Lib.hid h1
        have PP := Lib.hid (And.intro p1 p2)
        clear hx hy hle sz zz hs hz h1 h2 p1 p2
        go_upto_region 5 with fail
        go_cut [7, 8] (fun u v wx => u = .float .f64 x ∧ v = .int .i64 (y : Int) ∧ Hid (Below wr.heap.size wr wx))
        case first =>
          rename_i JJ QQ HRJ HMK
          have J : Hid (Below wr.heap.size wr wr.drew) := Lib.hid ⟨rfl, rfl, rfl, Nat.le_refl _, fun _ _ => rfl⟩
          have KK : Hid (∀ wx : World, Below wr.heap.size wr wx → wx.cell? ⟨b1, o1 + k, none⟩ = some (.string s) ∧ wx.cell? ⟨b2, o2 + k, none⟩ = some (.int .i64 z)) := Lib.hid fun wx h => ⟨(h.cell (p := ⟨b1, o1 + k, none⟩) PP.out.1).trans q1, (h.cell (p := ⟨b2, o2 + k, none⟩) PP.out.2).trans q2⟩
          obtain ⟨g1, g2⟩ := KK.out _ J.out
          go_region_held3 (fun w' => w'.cell? ⟨b1, o1 + k, none⟩ = some (.string s) ∧ w'.cell? ⟨b2, o2 + k, none⟩ = some (.int .i64 z)) (exact KK.out _ J.out) (first | (go_at_call 19; with_reducible refine (CL.out _).mono ?_; rintro e w3 ⟨rfl, hb⟩; replace J := Lib.hid (J.out.trans (hb.mono J.out.size)); clear hb))
          all_goals
            refine HMK _ _ (Met.intro (HRJ _ _ ?_))
            (repeat apply Exists.intro)
            exact ⟨⟨rfl, rfl, J⟩, rfl⟩
        case rest =>
          obtain ⟨rfl, rfl, hJ⟩ := hcut
          obtain ⟨q1, q2⟩ : wc.cell? ⟨b1, o1 + k, none⟩ = some (.string s) ∧ wc.cell? ⟨b2, o2 + k, none⟩ = some (.int .i64 z) := ⟨(hJ.out.cell (p := ⟨b1, o1 + k, none⟩) PP.out.1).trans q1, (hJ.out.cell (p := ⟨b2, o2 + k, none⟩) PP.out.2).trans q2⟩
          have PP := Lib.hid (And.intro (Nat.lt_of_lt_of_le PP.out.1 hJ.out.size) (Nat.lt_of_lt_of_le PP.out.2 hJ.out.size))
          go_upto_region 6 with fail
          go_cut [9, 10] (fun u v wx => u = .float .f64 x ∧ v = .int .i64 (y : Int) ∧ Hid (Below wc.heap.size wc wx))
          case first =>
            rename_i JJ QQ HRJ HMK
            have J : Hid (Below wc.heap.size wc wc.drew) := Lib.hid ⟨rfl, rfl, rfl, Nat.le_refl _, fun _ _ => rfl⟩
            have KK : Hid (∀ wx : World, Below wc.heap.size wc wx → wx.cell? ⟨b1, o1 + k, none⟩ = some (.string s) ∧ wx.cell? ⟨b2, o2 + k, none⟩ = some (.int .i64 z)) := Lib.hid fun wx h => ⟨(h.cell (p := ⟨b1, o1 + k, none⟩) PP.out.1).trans q1, (h.cell (p := ⟨b2, o2 + k, none⟩) PP.out.2).trans q2⟩
            obtain ⟨g1, g2⟩ := KK.out _ J.out
            go_region_held3 (fun w' => w'.cell? ⟨b1, o1 + k, none⟩ = some (.string s) ∧ w'.cell? ⟨b2, o2 + k, none⟩ = some (.int .i64 z)) (exact KK.out _ J.out) (first | (go_at_call 20; with_reducible refine (CR.out _).mono ?_; rintro e w3 ⟨rfl, hb⟩; replace J := Lib.hid (J.out.trans (hb.mono J.out.size)); clear hb))
            all_goals
              refine HMK _ _ (Met.intro (HRJ _ _ ?_))
              (repeat apply Exists.intro)
              exact ⟨⟨rfl, rfl, J⟩, rfl⟩
          case rest =>
            obtain ⟨rfl, rfl, hJ2⟩ := hcut
            have E : Hid (k + 1 ≤ ss.length) := HK
            have BB2 := Lib.hid (hI.out.2.trans ((hJ.out.trans (hJ2.out.mono hJ.out.size)).mono hI.out.2.size))
            clear CL CR q1 q2
            go_wp2_with (go_at_call 14; refine (CS.out _).mono ?_; rintro e w4 ⟨rfl, rfl⟩)
            go_roundw
            case rel => exact ⟨k + 1, by go_num, Lib.hid ⟨E.out, BB2.out⟩⟩
            case measure => have := E.out; simp [intOf]; omega
      · have i2 : ¬ (k : Int) < (zs.length : Int) := by omega
        have I2 := Lib.hid hI.out.2
        clear h1 h2
        go_wp2_with fail
        go_ret
        exact ⟨rfl, I2.out⟩
    · have i1 : ¬ (k : Int) < (ss.length : Int) := by omega
      have I2 := Lib.hid hI.out.2
      clear h1
      go_wp2_with fail
      go_ret
      exact ⟨rfl, I2.out⟩
end Go.Proofs.YtjkifbkehochoaaGreatDoor
