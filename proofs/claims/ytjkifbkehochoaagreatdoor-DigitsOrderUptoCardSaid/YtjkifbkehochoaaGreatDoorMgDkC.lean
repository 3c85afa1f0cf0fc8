/- galleylaw03.stands. galleyref03.Parse. -/
import Derived.Test.YtjkifbkehochoaaGreatDoorMgDkB
import Derived.Test.YtjkifbkehochoaaGreatDoorDiD
import Derived.Test.YtjkifbkehochoaaGreatDoorMgNear
import Derived.OwnWalk
namespace Go.Proofs.YtjkifbkehochoaaGreatDoor
open Go.RowKit Fl

theorem bl_get48 (s : ByteArray) (k : Nat) (h : k < s.size) : (bl s).getD k 48 = (s[k]).toNat := by
  rw [List.getD, bl_get s k h]; rfl
theorem bl_past48 (s : ByteArray) (k : Nat) (h : ¬ k < s.size) : (bl s).getD k 48 = 48 := by
  rw [List.getD, List.getElem?_eq_none (by rw [bl_len]; omega)]; rfl
set_option maxRecDepth 100000 in
set_option maxHeartbeats 2000000 in
theorem cStands (s t : ByteArray) (w : World) (hs : s.size ≤ 562949953421312) (ht : t.size ≤ 562949953421312) :
    Calls Tryz.prog 25 #[.string s, .string t] w fun e w' => e = .returned (.int .i64 (stF (bl s) (bl t))) ∧ w = w' := by
  have s1 : (s.size : Int) ≤ 562949953421312 := by omega
  have t1 : (t.size : Int) ≤ 562949953421312 := by omega
  obtain ⟨R, hR⟩ : ∃ R, R = stF (bl s) (bl t) := ⟨_, rfl⟩
  rw [← hR]
  obtain ⟨m, hm⟩ : ∃ m, m = max s.size t.size := ⟨_, rfl⟩
  have HM := Lib.hid hm
  have HR : Hid (R = stI (bl s) (bl t) m 0) := Lib.hid (by rw [hR, hm]; unfold stF; rw [bl_len, bl_len])
  clear hR hm hs ht
  go_enter Tryz.func25, Tryz.ntmps25
  go_wp2_with fail
  go_loopw [5] (fun i wx => ∃ k : Nat, i = .int .i64 k ∧ Hid (k ≤ m ∧ R = stI (bl s) (bl t) (m - k) k) ∧ wx = w) (fun i _ => m - (intOf i).toNat)
  case atStart => exact ⟨0, rfl, Lib.hid ⟨Nat.zero_le _, HR.out⟩, rfl⟩
  case round =>
    obtain ⟨k, rfl, hI, rfl⟩ := hrel
    have k1 : (k : Int) ≤ 562949953421312 := by have := hI.out.1; have := HM.out; omega
    obtain ⟨x, hx⟩ : ∃ x, x = (bl s).getD k 48 := ⟨_, rfl⟩
    obtain ⟨y, hy⟩ : ∃ y, y = (bl t).getD k 48 := ⟨_, rfl⟩
    have HX := Lib.hid hx
    have HY := Lib.hid hy
    clear hx hy
    by_cases hlt : k < m
    · have HL := Lib.hid hlt
      have step : Hid (R = if x < y then -1 else if y < x then 1 else stI (bl s) (bl t) (m - (k + 1)) (k + 1)) := Lib.hid (by
        have h := hI.out.2
        rw [show m - k = (m - (k + 1)) + 1 by omega, stI, ← HX.out, ← HY.out] at h
        exact h)
      have or1 : ¬ (k : Int) < (s.size : Int) → (k : Int) < (t.size : Int) := fun h => by have := HM.out; omega
      have OR := Lib.hid or1
      clear hlt or1
      go_upto_region 2 with fail
      go_cut [17] (fun u wx => u = .bool true ∧ wx = wr)
      case first =>
        by_cases ha : (k : Int) < (s.size : Int)
        · go_wp2_with fail
          go_meet
          exact ⟨rfl, rfl⟩
        · have hb := OR.out ha
          go_wp2_with fail
          go_meet
          exact ⟨rfl, rfl⟩
      case rest =>
        obtain ⟨rfl, rfl⟩ := hcut
        go_upto_if 23 with fail
        go_cut [6] (fun u wx => u = .int .u8 (x : Int) ∧ wx = wc)
        case first =>
          by_cases ha : k < s.size
          · have hai : (k : Int) < (s.size : Int) := by omega
            have E : Hid ((s[k]).toNat = x) := Lib.hid (by rw [HX.out, bl_get48 s k ha])
            go_wp2_with fail
            go_meet
            exact ⟨by rw [E.out] <;> rfl, rfl⟩
          · have hai : ¬ (k : Int) < (s.size : Int) := by omega
            have E : Hid (x = 48) := Lib.hid (by rw [HX.out, bl_past48 s k ha])
            clear ha
            go_wp2_with fail
            go_meet
            exact ⟨by rw [E.out] <;> rfl, rfl⟩
        case rest =>
          obtain ⟨rfl, rfl⟩ := hcut
          go_upto_if 30 with fail
          go_cut [7] (fun u wx => u = .int .u8 (y : Int) ∧ wx = wc)
          case first =>
            by_cases ha : k < t.size
            · have hai : (k : Int) < (t.size : Int) := by omega
              have E : Hid ((t[k]).toNat = y) := Lib.hid (by rw [HY.out, bl_get48 t k ha])
              go_wp2_with fail
              go_meet
              exact ⟨by rw [E.out] <;> rfl, rfl⟩
            · have hai : ¬ (k : Int) < (t.size : Int) := by omega
              have E : Hid (y = 48) := Lib.hid (by rw [HY.out, bl_past48 t k ha])
              clear ha
              go_wp2_with fail
              go_meet
              exact ⟨by rw [E.out] <;> rfl, rfl⟩
          case rest =>
            obtain ⟨rfl, rfl⟩ := hcut
            by_cases c1 : x < y
            · have E : Hid (R = -1) := Lib.hid (by rw [step.out, if_pos c1])
              have c1i : (x : Int) < (y : Int) := by omega
              clear c1
              go_wp2_with fail
              go_ret
              exact ⟨by rw [E.out]; rfl, rfl⟩
            · have c1i : ¬ (x : Int) < (y : Int) := by omega
              by_cases c2 : y < x
              · have E : Hid (R = 1) := Lib.hid (by rw [step.out, if_neg c1, if_pos c2])
                have c2i : (y : Int) < (x : Int) := by omega
                clear c1 c2
                go_wp2_with fail
                go_ret
                exact ⟨by rw [E.out]; rfl, rfl⟩
              · have E : Hid (R = stI (bl s) (bl t) (m - (k + 1)) (k + 1)) := Lib.hid (by rw [step.out, if_neg c1, if_neg c2])
                have c2i : ¬ (y : Int) < (x : Int) := by omega
                clear c1 c2
                go_wp2_with fail
                go_roundw
                case rel => exact ⟨k + 1, by go_num, Lib.hid ⟨HL.out, E.out⟩, trivial⟩
                case measure => have := HL.out; simp [intOf]; omega
    · have ha : ¬ (k : Int) < (s.size : Int) := by have := HM.out; omega
      have hb : ¬ (k : Int) < (t.size : Int) := by have := HM.out; omega
      have E : Hid (R = 0) := Lib.hid (by rw [hI.out.2, show m - k = 0 by omega]; rfl)
      clear hlt
      go_wp2_with fail
      go_ret
      exact ⟨by rw [E.out]; rfl, rfl⟩
end Go.Proofs.YtjkifbkehochoaaGreatDoor

namespace Go.Proofs.YtjkifbkehochoaaGreatDoor
open Go.RowKit Fl

theorem or63 (x : Nat) (h : x < 9223372036854775808) : bits .or .u64 (x : Int) 9223372036854775808 = ((x + 9223372036854775808 : Nat) : Int) := by
  rw [show (9223372036854775808 : Int) = ((9223372036854775808 : Nat) : Int) from rfl, u64_or_nat _ _ (by omega) (by decide)]
  congr 1
  have := Nat.two_pow_add_eq_or_of_lt (show x < 2 ^ 63 from h) 1
  rw [Nat.mul_one] at this
  rw [Nat.or_comm, Nat.add_comm]
  exact this.symm
theorem pN_pos {l : List Nat} (h : fDg l ≠ []) : 0 < fTo l + xSz (l.drop (fTo l)) := by
  have h1 : 0 < (fDg l).length := List.length_pos_iff.2 h
  rw [fDg_len] at h1
  have : 0 < fTo l := by
    unfold fTo
    split
    · omega
    · rename_i h2
      by_cases h3 : l.getD (fAt l + fWh l) 0 = 46
      · exact absurd ⟨h3, by omega⟩ h2
      · rw [fFr_zero h3] at h1; omega
  omega
set_option maxRecDepth 100000 in
set_option maxHeartbeats 2000000 in
/-- galleyref03.Parse -/
theorem rParse (s : ByteArray) (w : World) (hs : s.size ≤ 1000000000) :
    Calls Tryz.prog 13 #[.string s] w fun e w' => e = .returned (.tuple #[.float .f64 (pW (bl s)), .int .i64 (pN (bl s) : Nat), .int .i64 (pErr (bl s) : Nat)]) ∧ Below w.heap.size w w' := by
  have C32 := Lib.hid (rFigure s w hs)
  obtain ⟨X, hX⟩ : ∃ X, X = pW (bl s) := ⟨_, rfl⟩
  obtain ⟨N, hN⟩ : ∃ N, N = pN (bl s) := ⟨_, rfl⟩
  obtain ⟨Q, hQ⟩ : ∃ Q, Q = pErr (bl s) := ⟨_, rfl⟩
  rw [← hX, ← hN, ← hQ]
  have HL := Lib.hid (bl_len s)
  obtain ⟨l, hl⟩ : ∃ l, l = bl s := ⟨_, rfl⟩
  rw [← hl] at HL C32 hX hN hQ
  have DD := fDg_dg l
  have DL := fDg_le l
  have WL := fWh_le l
  rw [HL.out] at DL WL
  by_cases h0 : fDg l = []
  · have EX : Hid (X = 0 ∧ N = 0 ∧ Q = 31) := Lib.hid ⟨by rw [hX]; unfold pW; rw [if_pos h0], by rw [hN]; unfold pN; rw [if_pos h0], by rw [hQ]; unfold pErr; rw [if_pos h0]⟩
    have C : Hid (Calls Tryz.prog 32 #[.string s] w fun e w' => e = .returned (.tuple #[.bool false, .string ⟨#[]⟩, .int .i64 0, .int .i64 0]) ∧ w = w') := Lib.hid (C32.out.mono fun e w' ⟨h, hw⟩ => ⟨h.elim (fun h => h.2) (fun h => absurd h0 h.1), hw⟩)
    clear C32 hX hN hQ hl hs DD DL WL h0
    go_enter Tryz.func13, Tryz.ntmps13
    go_wp2_with (go_at_call 32; refine C.out.mono ?_; rintro e w' ⟨rfl, rfl⟩)
    go_ret3
    exact ⟨by rw [EX.out.1, EX.out.2.1, EX.out.2.2]; rfl, Below.refl _ _⟩
  · obtain ⟨B, hB⟩ : ∃ B, B = decide (l.getD 0 0 = 45) := ⟨_, rfl⟩
    obtain ⟨p, hp⟩ : ∃ p, p = (fWh l : Int) + xI FAR4 (l.drop (fTo l)) := ⟨_, rfl⟩
    obtain ⟨d, hd⟩ : ∃ d, d = fDg l := ⟨_, rfl⟩
    obtain ⟨Y, hY⟩ : ∃ Y, Y = readF d p := ⟨_, rfl⟩
    have Yle : Y ≤ INF := by rw [hY]; exact readF_le _ _
    have hNN : N = fTo l + xSz (l.drop (fTo l)) := by rw [hN]; unfold pN; rw [if_neg h0]
    have hXX : X = Y + (if B = true then 9223372036854775808 else 0) := by
      rw [hX, hY, hp, hd, hB]; unfold pW; rw [if_neg h0, far_xI (by omega) (by omega)]
      simp only [decide_eq_true_eq]
    have NP : 0 < N := by rw [hNN]; exact pN_pos h0
    have EX : Hid (Q = 0) := Lib.hid (by rw [hQ]; unfold pErr; rw [if_neg h0])
    have C : Hid (Calls Tryz.prog 32 #[.string s] w fun e w' => (∃ z : ByteArray, bl z = d ∧ e = .returned (.tuple #[.bool B, .string z, .int .i64 p, .int .i64 (N : Int)])) ∧ w = w') := Lib.hid (C32.out.mono fun e w' ⟨h, hw⟩ => ⟨h.elim (fun h => absurd h.1 h0) (fun ⟨_, z, h1, h2⟩ => ⟨z, by rw [hd]; exact h1, by rw [h2, hB, hp, hNN]⟩), hw⟩)
    have CR : Hid (∀ (z : ByteArray) (w : World), bl z = d → Calls Tryz.prog 33 #[.string z, .int .i64 p] w fun e w' => e = .returned (.int .u64 (Y : Nat)) ∧ Below w.heap.size w w') := Lib.hid (fun z w h => by
      have hz : z.size ≤ 1000000000 := by rw [← bl_len, h, hd]; omega
      have h4 : -4398046511104 ≤ xI FAR4 (l.drop (fTo l)) ∧ xI FAR4 (l.drop (fTo l)) ≤ 4398046511104 := xI_le (cap := FAR4) (l.drop (fTo l))
      have := R.cRead z p w (by rw [h, hd]; exact DD) hz (by rw [hp]; omega)
      rw [h, ← hY] at this
      exact this)
    have n1 : ¬ (N : Int) = 0 := by omega
    have hu : U Y := by unfold U; unfold INF at Yle; omega
    clear C32 hX hN hQ hl hs DD DL WL h0 hd hp hY hNN NP hB
    have o1 := or63 Y (by unfold INF at Yle; omega)
    cases B
    · rw [if_neg (by decide), Nat.add_zero] at hXX
      have HX := Lib.hid hXX
      clear hXX Yle
      go_enter Tryz.func13, Tryz.ntmps13
      go_wp2_with (first
        | (go_at_call 32; refine C.out.mono ?_; rintro e w' ⟨⟨z, hz, rfl⟩, rfl⟩; have Z := Lib.hid hz; clear hz)
        | (go_at_call 33; refine (CR.out _ _ Z.out).mono ?_; rintro e w1 ⟨rfl, hb⟩; have I := Lib.hid hb; clear hb))
      go_ret3
      exact ⟨by rw [EX.out, HX.out]; rfl, I.out⟩
    · rw [if_pos rfl] at hXX
      have hu2 : U X := by rw [hXX]; unfold U; unfold INF at Yle; omega
      rw [← hXX] at o1
      clear hXX Yle
      go_enter Tryz.func13, Tryz.ntmps13
      go_wp2_with (first
        | (go_at_call 32; refine C.out.mono ?_; rintro e w' ⟨⟨z, hz, rfl⟩, rfl⟩; have Z := Lib.hid hz; clear hz)
        | (go_at_call 33; refine (CR.out _ _ Z.out).mono ?_; rintro e w1 ⟨rfl, hb⟩; have I := Lib.hid hb; clear hb))
      go_ret3
      exact ⟨by rw [EX.out]; rfl, I.out⟩
end Go.Proofs.YtjkifbkehochoaaGreatDoor
