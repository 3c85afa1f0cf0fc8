/- slices.SortStableFunc and slices.Reverse at ints. slices.Reverse at ints. The sort and the turning round of what is nil. An Acc's forty words: length, bit. rounded: the plain laws. rounded: the walk. -/
import Derived.Test.YtedkbjimofiphaaMgSrF
import Derived.Test.YtedkbjimofiphaaAcc
import Derived.Test.YtedkbjimofiphaaMgJoin
import Derived.Test.YtedkbjimofiphaaMgAlive
import Derived.Deep.DeepCutAuto
import Derived.Deep.CutBlock
import Derived.Outline
namespace Go.Proofs.Ytedkbjimofiphaa
open Go.RowKit Fl
/-- so much is in blocks of so many -/
def Blk (w0 w : World) (g n : Nat) (key : Nat → Int) (X : List Nat) (s a : Nat) : Prop := ∃ P Y, DAt w g (P ++ Y) ∧ P.length = a ∧ P ++ blk key s Y = blk key s X ∧ (P ++ Y).length = X.length ∧ (∀ x ∈ P ++ Y, x < n) ∧ Only g w0 w
/-- so much is in blocks of twice so many -/
def Blk2 (w0 w : World) (g n : Nat) (key : Nat → Int) (X : List Nat) (s a : Nat) : Prop := ∃ P Y, DAt w g (P ++ blk key s Y) ∧ P.length = a ∧ P ++ blk key (2 * s) Y = blk key (2 * s) X ∧ (P ++ Y).length = X.length ∧ (∀ x ∈ P ++ Y, x < n) ∧ Only g w0 w
set_option maxRecDepth 100000 in
set_option maxHeartbeats 1000000 in
theorem c74 (g cap bx ga n c : Nat) (lv : Nat → Nat) (X : List Nat) (w : World) (L : Nat) (hE : SE w g bx ga n c lv) (hd : DAt w g X) (hn : ∀ x ∈ X, x < n) (hL : X.length = L) (hs : L ≤ 1099511627776) :
    Calls Try.prog 74 #[.slice (some ⟨g, 0, none⟩) L cap, .int .i64 (L : Int), .func (.func 57) #[] #[.pointer (some ⟨bx, 0, none⟩)]] w
      fun e w' => e = .returned (.tuple #[]) ∧ DAt w' g (stab (kf lv) X) ∧ Only g w w' := by
  have HB := Lib.hid (show Blk w w g n (kf lv) X 20 0 from ⟨[], X, hd, rfl, rfl, rfl, hn, Only.refl _ _⟩)
  have HE := Lib.hid hE
  have HL := Lib.hid hL
  have HN := Lib.hid hn
  clear hd hE hn hL
  go_enter Try.func74, Try.ntmps74
  go_wp2_with fail
  go_loopw [7, 8] (fun aa bb wx => ∃ a : Nat, aa = .int .i64 (a : Int) ∧ bb = .int .i64 ((a : Int) + 20) ∧ a ≤ L ∧ Hid (Blk w wx g n (kf lv) X 20 a)) (fun aa _ _ => L - (intOf aa).toNat)
  case atStart => exact ⟨0, rfl, rfl, Nat.zero_le _, HB⟩
  case round =>
    obtain ⟨a, rfl, rfl, haL, hI⟩ := hrel
    by_cases hlt : a + 20 ≤ L
    · have hi : (a : Int) + 20 ≤ (L : Int) := by omega
      obtain ⟨P, Y, h1, h2, h3, h4, h5, h6⟩ := hI.out
      obtain ⟨Y1, Y2, rfl, l1, l2⟩ := split_at Y 20 (by have := HL.out; simp only [List.length_append] at h4; omega)
      rw [blk_cons _ (by omega) l1] at h3
      have HQ := Lib.hid (And.intro h1 (And.intro h2 (And.intro h3 (And.intro h4 (And.intro h5 (And.intro h6 l1))))))
      clear h1 h2 h3 h4 h5 h6 l1 l2 hI
      go_wp2_with fail
      go_at_call 88
      obtain ⟨h1, h2, h3, h4, h5, h6, l1⟩ := HQ.out
      refine (c88 g cap bx ga n c a (a + 20) lv P Y1 Y2 wr L (HE.out.only h6) h1 (fun x hx => h5 x (by simp [hx])) (h4.trans HL.out) hs h2 (by omega)).mono fun e w' ⟨he, h8, h9⟩ => ?_
      subst he
      have HQ2 := Lib.hid (show Blk w w' g n (kf lv) X 20 (a + 20) from
        ⟨P ++ stab (kf lv) Y1, Y2, by simpa using h8, by rw [List.length_append, stab_length]; omega, by rw [← h3]; simp, by rw [← h4]; simp only [List.length_append, stab_length]; omega,
          fun x hx => h5 x (by simp only [List.mem_append, mem_stab] at hx ⊢; rcases hx with (h | h) | h <;> simp [h]), h6.trans h9⟩)
      clear h1 h2 h3 h4 h5 h6 l1 h8 h9 HQ
      go_wp2_with fail
      go_roundw
      case rel => exact ⟨a + 20, by go_num, by go_num, hlt, HQ2⟩
      case measure => simp [intOf]; omega
    · have hi : ¬ (a : Int) + 20 ≤ (L : Int) := by omega
      go_wp2_with fail
      obtain ⟨P, Y, h1, h2, h3, h4, h5, h6⟩ := hI.out
      go_at_call 88
      refine (c88 g cap bx ga n c a L lv P Y [] wr L (HE.out.only h6) (by simpa using h1) (fun x hx => h5 x (by simp [hx])) (by rw [List.append_nil, h4, HL.out]) hs h2 (by have := HL.out; simp only [List.length_append] at h4; omega)).mono fun e w' ⟨he, h8, h9⟩ => ?_
      subst he
      have HQ := Lib.hid (show DAt w' g (blk (kf lv) 20 X) ∧ Only g w w' from by
        refine ⟨?_, h6.trans h9⟩
        rw [← h3, blk_small _ (by have := HL.out; simp only [List.length_append] at h4; omega)]
        simpa using h8)
      clear h1 h2 h3 h4 h5 h6 h8 h9 hI hi HB
      go_wp2_with fail
      go_loopw [6, 7, 8, 9] (fun ss aa bb mm wx => ∃ s : Nat, ss = .int .i64 (s : Int) ∧ 0 < s ∧ s ≤ 2199023255572 ∧ Hid (DAt wx g (blk (kf lv) s X) ∧ Only g w wx)) (fun ss _ _ _ _ => L - (intOf ss).toNat)
      case atStart => exact ⟨20, rfl, by omega, by omega, HQ⟩
      case round =>
        obtain ⟨s, rfl, hs0, hs1, hS⟩ := hrel
        by_cases hlt2 : s < L
        · have hi2 : (s : Int) < (L : Int) := by omega
          have HB := Lib.hid (show Blk2 w wr g n (kf lv) X s 0 from ⟨[], X, hS.out.1, rfl, rfl, rfl, HN.out, hS.out.2⟩)
          go_wp2_with fail
          go_loopw [7, 8] (fun aa bb wx => ∃ a : Nat, aa = .int .i64 (a : Int) ∧ bb = .int .i64 ((a : Int) + 2 * (s : Int)) ∧ a ≤ L ∧ Hid (Blk2 w wx g n (kf lv) X s a)) (fun aa _ _ => L - (intOf aa).toNat)
          case atStart => exact ⟨0, rfl, by go_num, Nat.zero_le _, HB⟩
          case round =>
            obtain ⟨a, rfl, rfl, haL, hI⟩ := hrel
            by_cases hlt : a + 2 * s ≤ L
            · have hi : (a : Int) + 2 * (s : Int) ≤ (L : Int) := by omega
              obtain ⟨P, Y, h1, h2, h3, h4, h5, h6⟩ := hI.out
              obtain ⟨Y1, Y0, rfl, l1, l0⟩ := split_at Y s (by have := HL.out; simp only [List.length_append] at h4; omega)
              obtain ⟨Y2, Y3, rfl, l2, l3⟩ := split_at Y0 s (by have := HL.out; simp only [List.length_append] at h4; omega)
              rw [← List.append_assoc, blk_cons _ (by omega) (by rw [List.length_append]; omega)] at h3
              rw [blk_cons _ (by omega) l1, blk_cons _ (by omega) l2] at h1
              have HQ := Lib.hid (And.intro h1 (And.intro h2 (And.intro h3 (And.intro h4 (And.intro h5 (And.intro h6 (And.intro l1 l2)))))))
              clear h1 h2 h3 h4 h5 h6 l1 l2 l0 l3 hI
              go_wp2_with fail
              go_at_call 89
              obtain ⟨h1, h2, h3, h4, h5, h6, l1, l2⟩ := HQ.out
              refine (c89 (s + s) g cap bx ga n c a (a + s) (a + 2 * s) lv P (stab (kf lv) Y1) (stab (kf lv) Y2) (blk (kf lv) s Y3) wr L (by rw [stab_length, stab_length]; omega) (HE.out.only h6) h1
                (fun x hx => h5 x (by have := (stab_perm (kf lv) Y1).mem_iff.1 hx; simp [this])) (fun x hx => h5 x (by have := (stab_perm (kf lv) Y2).mem_iff.1 hx; simp [this]))
                (by rw [← HL.out, ← h4]; simp only [List.length_append, stab_length, blk_length]) hs h2 (by rw [stab_length]; omega) (by rw [stab_length]; omega) (by rw [stab_length]; omega) (by rw [stab_length]; omega) (stab_sd _ _) (stab_sd _ _)).mono fun e w' ⟨he, h8, h9⟩ => ?_
              subst he
              have HQ2 := Lib.hid (show Blk2 w w' g n (kf lv) X s (a + 2 * s) from
                ⟨P ++ stab (kf lv) (Y1 ++ Y2), Y3, by rw [stab_append]; simpa using h8, by rw [List.length_append, stab_length, List.length_append]; omega, by rw [← h3]; simp, by rw [← h4]; simp only [List.length_append, stab_length]; omega,
                  fun x hx => h5 x (by simp only [List.mem_append, mem_stab] at hx ⊢; rcases hx with (h | h | h) | h <;> simp [h]), h6.trans h9⟩)
              clear h1 h2 h3 h4 h5 h6 l1 l2 h8 h9 HQ
              go_wp2_with fail
              go_roundw
              case rel => exact ⟨a + 2 * s, by go_num, by go_num, hlt, HQ2⟩
              case measure => simp [intOf]; omega
            · have hi : ¬ (a : Int) + 2 * (s : Int) ≤ (L : Int) := by omega
              obtain ⟨P, Y, h1, h2, h3, h4, h5, h6⟩ := hI.out
              have lY : Y.length < 2 * s := by have := HL.out; simp only [List.length_append] at h4; omega
              by_cases hm : a + s < L
              · have him : (a : Int) + (s : Int) < (L : Int) := by omega
                obtain ⟨Y1, Y2, rfl, l1, l0⟩ := split_at Y s (by have := HL.out; simp only [List.length_append] at h4; omega)
                have l2 : Y2.length = L - (a + s) := by have := HL.out; simp only [List.length_append] at h4; omega
                rw [blk_small _ (Nat.le_of_lt lY)] at h3
                rw [blk_cons _ (by omega) l1, blk_small _ (by omega)] at h1
                have HQ := Lib.hid (And.intro h1 (And.intro h2 (And.intro h3 (And.intro h4 (And.intro h5 (And.intro h6 (And.intro l1 l2)))))))
                clear h1 h2 h3 h4 h5 h6 l1 l2 l0 hI lY HB
                go_wp2_with fail
                go_at_call 89
                obtain ⟨h1, h2, h3, h4, h5, h6, l1, l2⟩ := HQ.out
                refine (c89 (s + L) g cap bx ga n c a (a + s) L lv P (stab (kf lv) Y1) (stab (kf lv) Y2) [] wr L (by rw [stab_length, stab_length]; omega) (HE.out.only h6) (by simpa using h1)
                  (fun x hx => h5 x (by have := (stab_perm (kf lv) Y1).mem_iff.1 hx; simp [this])) (fun x hx => h5 x (by have := (stab_perm (kf lv) Y2).mem_iff.1 hx; simp [this]))
                  (by rw [← HL.out, ← h4]; simp only [List.length_append, stab_length, List.length_nil]; omega) hs h2 (by rw [stab_length]; omega) (by rw [stab_length]; omega) (by rw [stab_length]; omega) (by rw [stab_length]; omega) (stab_sd _ _) (stab_sd _ _)).mono fun e w' ⟨he, h8, h9⟩ => ?_
                subst he
                have HQ2 := Lib.hid (show DAt w' g (blk (kf lv) (2 * s) X) ∧ Only g w w' from by
                  refine ⟨?_, h6.trans h9⟩
                  rw [← h3, stab_append]
                  simpa using h8)
                clear h1 h2 h3 h4 h5 h6 l1 l2 h8 h9 HQ
                go_wp2_with fail
                go_roundw
                case rel => exact ⟨2 * s, by go_num, by omega, by omega, HQ2⟩
                case measure => simp [intOf]; omega
              · have him : ¬ (a : Int) + (s : Int) < (L : Int) := by omega
                have lY2 : Y.length ≤ s := by have := HL.out; simp only [List.length_append] at h4; omega
                have HQ2 := Lib.hid (show DAt wr g (blk (kf lv) (2 * s) X) ∧ Only g w wr from by
                  refine ⟨?_, h6⟩
                  rw [← h3, blk_small _ (Nat.le_of_lt lY), ← blk_small (s := s) _ lY2]
                  exact h1)
                clear h1 h2 h3 h4 h5 h6 lY lY2 hI HB
                go_wp2_with fail
                go_roundw
                case rel => exact ⟨2 * s, by go_num, by omega, by omega, HQ2⟩
                case measure => simp [intOf]; omega
        · have hi2 : ¬ (s : Int) < (L : Int) := by omega
          have HQ2 := Lib.hid (show DAt wr g (stab (kf lv) X) ∧ Only g w wr from by
            have h := hS.out
            rw [blk_small _ (by have := HL.out; omega)] at h
            exact h)
          clear hS
          go_wp2_with fail
          go_end0
          exact ⟨rfl, HQ2.out⟩
set_option maxRecDepth 100000 in
set_option maxHeartbeats 1000000 in
theorem c59 (g cap bx ga n c : Nat) (lv : Nat → Nat) (X : List Nat) (w : World) (L : Nat) (hE : SE w g bx ga n c lv) (hd : DAt w g X) (hn : ∀ x ∈ X, x < n) (hL : X.length = L) (hs : L ≤ 1099511627776) :
    Calls Try.prog 59 #[.slice (some ⟨g, 0, none⟩) L cap, .func (.func 57) #[] #[.pointer (some ⟨bx, 0, none⟩)]] w
      fun e w' => e = .returned (.tuple #[]) ∧ DAt w' g (stab (kf lv) X) ∧ Only g w w' := by
  have HC := Lib.hid (c74 g cap bx ga n c lv X w L hE hd hn hL hs)
  clear hE hd hn hL
  go_enter Try.func59, Try.ntmps59
  go_wp2_with fail
  go_at_call 74
  refine HC.out.mono fun e w' ⟨he, h8⟩ => ?_
  subst he
  have H := Lib.hid h8
  clear h8
  go_wp2
  go_end0
  exact ⟨rfl, H.out⟩
end Go.Proofs.Ytedkbjimofiphaa

namespace Go.Proofs.Ytedkbjimofiphaa
open Go.RowKit Fl
def Rev (w0 w : World) (g : Nat) (X : List Nat) (i : Nat) : Prop := ∃ P Y Q, DAt w g (P ++ (Y ++ Q)) ∧ P.length = i ∧ Q.length = i ∧ P ++ (Y.reverse ++ Q) = X.reverse ∧ (P ++ (Y ++ Q)).length = X.length ∧ Only g w0 w
set_option maxRecDepth 100000 in
set_option maxHeartbeats 1000000 in
theorem c60 (g cap : Nat) (X : List Nat) (w : World) (L : Nat) (hd : DAt w g X) (hL : X.length = L) (hs : L ≤ 1099511627776) :
    Calls Try.prog 60 #[.slice (some ⟨g, 0, none⟩) L cap] w fun e w' => e = .returned (.tuple #[]) ∧ DAt w' g X.reverse ∧ Only g w w' := by
  have HB := Lib.hid (show Rev w w g X 0 from ⟨[], X, [], by simpa using hd, rfl, rfl, by simp, by simp, Only.refl _ _⟩)
  have HL := Lib.hid hL
  clear hd hL
  go_enter Try.func60, Try.ntmps60
  go_wp2_with fail
  go_loopw [2, 3] (fun ii jj wx => ∃ (i : Nat) (J : Int), ii = .int .i64 (i : Int) ∧ jj = .int .i64 J ∧ J = (L : Int) - 1 - (i : Int) ∧ (i : Int) ≤ J + 1 ∧ Hid (Rev w wx g X i)) (fun ii _ _ => L - (intOf ii).toNat)
  case atStart => exact ⟨0, _, rfl, rfl, by omega, by omega, HB⟩
  case round =>
    obtain ⟨i, J, rfl, rfl, hJ, hiJ, hI⟩ := hrel
    by_cases hlt : (i : Int) < J
    · obtain ⟨j, rfl⟩ : ∃ j : Nat, J = (j : Int) := ⟨J.toNat, by omega⟩
      obtain ⟨P, Y, Q, h1, h2, h3, h4, h5, h6⟩ := hI.out
      have lY : Y.length = j - i + 1 := by have := HL.out; simp only [List.length_append] at h5; omega
      obtain ⟨x, Y1, rfl, l1⟩ := cons_of_len lY
      obtain ⟨y, M, rfl, l2⟩ := snoc_of_len (l := Y1) (n := j - i - 1) (by omega)
      have D := h1
      rw [show P ++ (x :: (M ++ [y]) ++ Q) = P ++ x :: (M ++ y :: Q) by simp] at D
      have hL := HL.out
      have cx := D.get (get_mid (y := x) (m := i) h2.symm)
      have cy := D.get (get_far (y := y) (k := j) (by omega))
      have lD : (P ++ x :: (M ++ y :: Q)).length = L := by rw [← hL, ← h5]; simp
      have fx := D.fro (j := i) (by omega)
      have fy := D.fro (j := j) (by omega)
      have hne : i ≠ j := by omega
      have NX := Lib.hid (show ∀ wq, wq = ((wr.setCell ⟨g, i, none⟩ (.int .i64 (y : Int))).setCell ⟨g, j, none⟩ (.int .i64 (x : Int))).drew → Rev w wq g X (i + 1) from fun wq e => by
        subst e
        have T := D.two (j := i) (k := j) y x
        rw [swap_far h2.symm (by omega)] at T
        exact ⟨P ++ [y], M, x :: Q, by simpa using T.drew1, by simp [h2], by simp [h3], by rw [← h4]; simp, by rw [← h5]; simp, (two_only h6 _ _).drew⟩)
      have jL : (j : Int) < (L : Int) := by omega
      have iL : (i : Int) < (L : Int) := by omega
      have HJ := Lib.hid hJ
      clear h1 h2 h3 h4 h5 h6 lY l1 l2 D lD hL hI HB hJ
      go_wp2_with fail
      go_region
      go_wp2
      go_roundw
      case rel => exact ⟨i + 1, (j : Int) - 1, by go_num, rfl, by have := HJ.out; omega, by omega, NX.out _ rfl⟩
      case measure => simp [intOf]; omega
    · have HQ := Lib.hid (show DAt wr g X.reverse ∧ Only g w wr from by
        obtain ⟨P, Y, Q, h1, h2, h3, h4, h5, h6⟩ := hI.out
        have : Y.length ≤ 1 := by have := HL.out; simp only [List.length_append] at h5; omega
        have hY : Y.reverse = Y := by
          match Y, this with
          | [], _ => rfl
          | [_], _ => rfl
        rw [hY] at h4
        rw [← h4]
        exact ⟨h1, h6⟩)
      clear hI HB
      go_wp2_with fail
      go_end0
      exact ⟨rfl, HQ.out⟩
end Go.Proofs.Ytedkbjimofiphaa

namespace Go.Proofs.Ytedkbjimofiphaa
open Go.RowKit Fl
set_option maxRecDepth 100000 in
theorem c88n (F : Value) (w : World) : Calls Try.prog 88 #[.slice none 0 0, .int .i64 0, .int .i64 0, F] w fun e w' => e = .returned (.tuple #[]) ∧ w' = w := by
  go_enter Try.func88, Try.ntmps88
  go_wp2_with fail
  go_loopw [8] (fun ii wx => ii = .int .i64 1 ∧ wx = w) (fun _ _ => 0)
  case atStart => exact ⟨rfl, rfl⟩
  case round =>
    obtain ⟨rfl, rfl⟩ := hrel
    go_wp2_with fail
    go_end0
    exact ⟨rfl, rfl⟩
set_option maxRecDepth 100000 in
theorem c74n (F : Value) (w : World) : Calls Try.prog 74 #[.slice none 0 0, .int .i64 0, F] w fun e w' => e = .returned (.tuple #[]) ∧ w' = w := by
  go_enter Try.func74, Try.ntmps74
  go_wp2_with fail
  go_loopw [7, 8] (fun ii jj wx => ii = .int .i64 0 ∧ jj = .int .i64 20 ∧ wx = w) (fun _ _ _ => 0)
  case atStart => exact ⟨rfl, rfl, rfl⟩
  case round =>
    obtain ⟨rfl, rfl, rfl⟩ := hrel
    go_wp2_with fail
    go_at_call 88
    refine (c88n _ _).mono fun e w' ⟨he, hw⟩ => ?_
    subst he hw
    go_wp2_with fail
    go_loopw [6] (fun ii wx => ii = .int .i64 20 ∧ wx = w') (fun _ _ => 0)
    case atStart => exact ⟨rfl, rfl⟩
    case round =>
      obtain ⟨rfl, rfl⟩ := hrel
      go_wp2_with fail
      go_end0
      exact ⟨rfl, rfl⟩
set_option maxRecDepth 100000 in
theorem c59n (F : Value) (w : World) : Calls Try.prog 59 #[.slice none 0 0, F] w fun e w' => e = .returned (.tuple #[]) ∧ w' = w := by
  go_enter Try.func59, Try.ntmps59
  go_wp2_with fail
  go_at_call 74
  refine (c74n _ _).mono fun e w' ⟨he, hw⟩ => ?_
  subst he hw
  go_wp2
  go_end0
  exact ⟨rfl, rfl⟩
set_option maxRecDepth 100000 in
theorem c60n (w : World) : Calls Try.prog 60 #[.slice none 0 0] w fun e w' => e = .returned (.tuple #[]) ∧ w' = w := by
  go_enter Try.func60, Try.ntmps60
  go_wp2_with fail
  go_loopw [2, 3] (fun ii jj wx => ii = .int .i64 0 ∧ jj = .int .i64 (-1) ∧ wx = w) (fun _ _ _ => 0)
  case atStart => exact ⟨rfl, rfl, rfl⟩
  case round =>
    obtain ⟨rfl, rfl, rfl⟩ := hrel
    go_wp2_with fail
    go_end0
    exact ⟨rfl, rfl⟩
end Go.Proofs.Ytedkbjimofiphaa

namespace Go.Proofs.Ytedkbjimofiphaa
open Go.RowKit Fl
/-- the i-th word of a whole number that is not below nought -/
def wn (n i : Nat) : Nat := n / 2 ^ (64 * i) % 18446744073709551616
theorem wd_nat (n i : Nat) : wd (n : Int) i = ((wn n i : Nat) : Int) := by
  unfold wd wn
  have e : (2 : Int) ^ (64 * i) = ((2 ^ (64 * i) : Nat) : Int) := by rw [Int.natCast_pow]; rfl
  rw [e, ← Int.natCast_ediv]
  generalize n / 2 ^ (64 * i) = q
  omega
theorem U_wn (n i : Nat) : U (wn n i) := Nat.mod_lt _ (by decide)
theorem P64 (t : Nat) : 2 ^ (64 * (t + 1)) = 2 ^ (64 * t) * 18446744073709551616 := by rw [Nat.mul_succ, Nat.pow_add]
theorem wn_top (n t : Nat) (h : n < 2 ^ (64 * (t + 1))) : wn n t = n / 2 ^ (64 * t) := by
  unfold wn
  rw [P64] at h
  exact Nat.mod_eq_of_lt (Nat.div_lt_of_lt_mul h)
theorem wn_zero_lt (n t : Nat) (h : n < 2 ^ (64 * (t + 1))) (h0 : wn n t = 0) : n < 2 ^ (64 * t) := by
  rw [wn_top n t h] at h0
  rcases Nat.lt_or_ge n (2 ^ (64 * t)) with c | c
  · exact c
  · have := (Nat.le_div_iff_mul_le (Nat.two_pow_pos (64 * t))).2 (show 1 * 2 ^ (64 * t) ≤ n by omega)
    omega
theorem blen_shift (n k : Nat) (h : 0 < n / 2 ^ k) : blen n = k + blen (n / 2 ^ k) := by
  have hn : n ≠ 0 := by intro e; subst e; simp at h
  have hq : n / 2 ^ k ≠ 0 := by omega
  unfold blen
  rw [if_neg hn, if_neg hq]
  have h1 := Nat.log2_self_le hq
  have h2 : n / 2 ^ k < 2 ^ ((n / 2 ^ k).log2 + 1) := Nat.lt_log2_self
  have h3 : n.log2 = k + (n / 2 ^ k).log2 := by
    refine log2_eq _ _ ?_ ?_
    · rw [Nat.pow_add]
      have := (Nat.le_div_iff_mul_le (Nat.two_pow_pos k)).1 h1
      rw [Nat.mul_comm]; exact this
    · rw [Nat.add_assoc, Nat.pow_add]
      have := (Nat.div_lt_iff_lt_mul (Nat.two_pow_pos k)).1 h2
      rw [Nat.mul_comm]; exact this
  omega
theorem len_word (n t : Nat) (h : n < 2 ^ (64 * (t + 1))) (h0 : wn n t ≠ 0) : blen n = 64 * t + blen (wn n t) := by
  rw [wn_top n t h] at h0 ⊢
  exact blen_shift n (64 * t) (Nat.pos_of_ne_zero h0)
def CAP : Nat := 40
theorem CAP_eq : CAP = 40 := rfl
set_option maxRecDepth 100000 in
set_option maxHeartbeats 1000000 in
theorem c180 (n : Nat) (w : World) (h : n < 2 ^ (64 * CAP)) : Calls Try.prog 71 #[.agg (WL (n : Int)).toArray] w fun e w' => e = .returned (.int .i64 (blen n)) ∧ Below w.heap.size w w' := by
  have HR := Lib.hid (row_alloc w (n : Int))
  have HH : Hid (n < 2 ^ (64 * CAP)) := Lib.hid h
  have B1 : Hid (Below w.heap.size w (w.alloc (.cells (WL (n : Int)).toArray 99))) := Lib.hid ((Below.refl _ _).alloc (Nat.le_refl _) _)
  clear h
  go_enter Try.func71, Try.ntmps71
  go_wp2
  go_loop [3] (fun i => ∃ j : Nat, j ≤ 40 ∧ i = .int .i64 ((j : Int) - 1) ∧ Hid (n < 2 ^ (64 * j))) (fun i => (intOf i + 1).toNat)
  case atStart => exact ⟨CAP, by rw [CAP_eq]; omega, rfl, HH⟩
  case round =>
    obtain ⟨j, hj, rfl, hn⟩ := hrel
    rcases Nat.eq_zero_or_pos j with h0 | h0
    · subst h0
      have hz : n = 0 := by have := hn.out; simp at this; omega
      have e : blen n = 0 := by rw [hz]; rfl
      have E := Lib.hid e
      clear e hn HH HR
      subst hz
      go_wp2
      go_ret
      exact ⟨rfl, B1.out⟩
    · obtain ⟨t, rfl⟩ : ∃ t, j = t + 1 := ⟨j - 1, by omega⟩
      have ht : t < 40 := by omega
      have c0 := (HR.out t ht).1
      rw [wd_nat] at c0
      have ej : ((t + 1 : Nat) : Int) - 1 = (t : Int) := by omega
      have hti : (t : Int) ≤ 39 := by omega
      have hlen := len_word n t hn.out
      have hlt := wn_zero_lt n t hn.out
      have hu := U_wn n t
      rw [ej]
      by_cases hw : wn n t = 0
      · have hw' : ((wn n t : Int) != 0) = false := by simp [hw]
        have HN := Lib.hid (hlt hw)
        clear hlen hlt hw hn HH ej
        go_wp2
        go_round
        case rel => exact ⟨t, by omega, rfl, HN⟩
        case measure => simp [intOf]
      · have hw' : ((wn n t : Int) != 0) = true := by simp; omega
        have HL := Lib.hid (hlen hw)
        have hbl : blen (wn n t) ≤ 64 := blen_lt _ 64 hu
        clear hlen hlt hw hn HH ej
        go_wp2_with (go_at_call 87; refine (c176 _ _ (by assumption)).mono ?_; rintro e w' ⟨rfl, rfl⟩)
        go_ret
        exact ⟨ret_int (by rw [HL.out]; push_cast; rfl), B1.out⟩
theorem bit_word (n i : Nat) : wn n (i / 64) / 2 ^ (i % 64) % 2 = n / 2 ^ i % 2 := by
  have e : n / 2 ^ i = n / 2 ^ (64 * (i / 64)) / 2 ^ (i % 64) := by
    rw [Nat.div_div_eq_div_mul, ← Nat.pow_add]; congr 2; omega
  rw [e]
  unfold wn
  generalize n / 2 ^ (64 * (i / 64)) = q
  have hr : i % 64 < 64 := Nat.mod_lt _ (by decide)
  generalize i % 64 = r at *
  have e2 : (18446744073709551616 : Nat) = 2 ^ r * 2 ^ (63 - r) * 2 := by
    rw [Nat.mul_assoc, ← Nat.pow_succ, ← Nat.pow_add]
    rw [show r + (63 - r).succ = 64 by omega]
  rw [e2, Nat.mul_assoc, Nat.mod_mul_right_div_self, Nat.mul_comm (2 ^ (63 - r)) 2, Nat.mod_mul_right_mod]
set_option maxRecDepth 100000 in
set_option maxHeartbeats 1000000 in
theorem c181 (n : Nat) (i : Nat) (w : World) (hi : i < 2560) : Calls Try.prog 72 #[.agg (WL (n : Int)).toArray, .int .i64 i] w fun e w' => e = .returned (.bool (decide (n / 2 ^ i % 2 = 1))) ∧ Below w.heap.size w w' := by
  have c0 := (row_alloc w (n : Int) (i / 64) (by omega)).1
  rw [wd_nat] at c0
  have B1 : Hid (Below w.heap.size w (w.alloc (.cells (WL (n : Int)).toArray 99))) := Lib.hid ((Below.refl _ _).alloc (Nat.le_refl _) _)
  have hb := bit_word n i
  have hu := U_wn n (i / 64)
  have e1 : (wn n (i / 64) : Int) / 2 ^ (i % 64) = ((wn n (i / 64) / 2 ^ (i % 64) : Nat) : Int) := by push_cast; rfl
  have e2 := b_one (wn n (i / 64) / 2 ^ (i % 64)) (Nat.lt_of_le_of_lt (Nat.div_le_self _ _) hu)
  rw [hb] at e2
  have hq : (i : Int) / 64 < 40 := by omega
  have hii : (i : Int) < 2560 := by omega
  clear hb hu
  generalize wn n (i / 64) / 2 ^ (i % 64) = V at *
  go_enter Try.func72, Try.ntmps72
  go_wp2
  go_ret
  exact ⟨rfl, B1.out⟩
end Go.Proofs.Ytedkbjimofiphaa

namespace Go.Proofs.Ytedkbjimofiphaa
open Go.RowKit Fl
theorem rnd_small (n : Nat) (h : n < 9007199254740992) : rnd n = n := by
  have := rnd_val n (by unfold INF; omega)
  rwa [val_small 52 n (by rw [B52]; omega)] at this
theorem blen_le_small (n : Nat) (h : blen n ≤ 53) : n < 9007199254740992 := by
  have h1 := lt_blen n
  have h2 : 2 ^ blen n ≤ 2 ^ 53 := Nat.pow_le_pow_right (by omega) h
  rw [show (2 ^ 53 : Nat) = 9007199254740992 from by decide] at h2
  omega
/-- the significand that is kept -/
theorem top_bounds (n d : Nat) (h : blen n = d + 53) : 4503599627370496 ≤ n / 2 ^ d ∧ n / 2 ^ d < 9007199254740992 := by
  have h0 : 0 < n := by
    rcases Nat.eq_zero_or_pos n with c | c
    · subst c; simp [blen] at h
    · exact c
  have h1 := lt_blen n
  have h2 := le_blen n h0
  rw [h] at h1 h2
  constructor
  · rw [Nat.le_div_iff_mul_le (Nat.two_pow_pos d), ← B52, ← Nat.pow_add]
    rw [show d + 53 - 1 = 52 + d by omega] at h2
    exact h2
  · rw [Nat.div_lt_iff_lt_mul (Nat.two_pow_pos d), ← show (2 ^ 53 : Nat) = 9007199254740992 from by decide, ← Nat.pow_add]
    rw [show d + 53 = 53 + d by omega] at h1
    exact h1
theorem rung_drop (n d : Nat) (h : blen n = d + 53) : rungOf 52 n 0 = d * 4503599627370496 + rhe n (2 ^ d) := by
  have h0 : 0 < n := by
    rcases Nat.eq_zero_or_pos n with c | c
    · subst c; simp [blen] at h
    · exact c
  have hl : n.log2 = d + 52 := by
    unfold blen at h
    rw [if_neg (by omega)] at h
    omega
  unfold rungOf
  rw [hl, show d + 52 - 52 - 0 = d by omega, Nat.zero_add, B52]
/-- rounding by the half's bit and the rest -/
theorem rhe_half (n d : Nat) (hd : 1 ≤ d) : rhe n (2 ^ d) = n / 2 ^ d + (if n / 2 ^ (d - 1) % 2 = 1 ∧ (n % 2 ^ (d - 1) ≠ 0 ∨ n / 2 ^ d % 2 = 1) then 1 else 0) := by
  unfold rhe
  congr 1
  have hg := two_half d hd
  have hp := Nat.two_pow_pos (d - 1)
  have e1 : n % 2 ^ d = 2 ^ (d - 1) * (n / 2 ^ (d - 1) % 2) + n % 2 ^ (d - 1) := by
    rw [hg, Nat.mul_comm 2, Nat.mod_mul]
    omega
  rw [e1, hg]
  have h1 := Nat.mod_lt n hp
  have h2 : n / 2 ^ (d - 1) % 2 = 0 ∨ n / 2 ^ (d - 1) % 2 = 1 := by omega
  generalize n / (2 * 2 ^ (d - 1)) = q
  generalize 2 ^ (d - 1) = H at *
  generalize n % H = r at *
  generalize n / H % 2 = b at *
  rcases h2 with h2 | h2
  · subst h2
    rw [if_neg (by omega), if_neg (by omega)]
  · subst h2
    by_cases c : r ≠ 0 ∨ q % 2 = 1
    · rw [if_pos (by omega), if_pos ⟨rfl, c⟩]
    · rw [if_neg (by omega), if_neg (by omega)]
/-- the low word and the next one, put together -/
theorem words_join (n d : Nat) (hr : 0 < d % 64) : bits .or .u64 ((wn n (d / 64) / 2 ^ (d % 64) : Nat) : Int) (IntKind.u64.wrap (((wn n (d / 64 + 1) : Nat) : Int) * 2 ^ (64 - d % 64))) = ((n / 2 ^ d % 18446744073709551616 : Nat) : Int) := by
  have hl : d % 64 < 64 := Nat.mod_lt _ (by decide)
  have e : n / 2 ^ d = n / 2 ^ (64 * (d / 64)) / 2 ^ (d % 64) := by
    rw [Nat.div_div_eq_div_mul, ← Nat.pow_add]; congr 2; omega
  have ew : wn n (d / 64 + 1) = n / 2 ^ (64 * (d / 64)) / 18446744073709551616 % 18446744073709551616 := by
    unfold wn
    rw [Nat.div_div_eq_div_mul, P64]
  rw [rest_eq _ _ (by omega) (by omega), e, ew]
  unfold wn
  generalize n / 2 ^ (64 * (d / 64)) = X
  generalize d % 64 = r at *
  have hp := Nat.two_pow_pos (64 - r)
  have hq := Nat.two_pow_pos r
  have e2 : (18446744073709551616 : Nat) = 2 ^ r * 2 ^ (64 - r) := by rw [← Nat.pow_add, show r + (64 - r) = 64 by omega]
  have a1 : X % 18446744073709551616 / 2 ^ r = X / 2 ^ r % 2 ^ (64 - r) := by rw [e2, Nat.mod_mul_right_div_self]
  have a2 : X / 18446744073709551616 % 18446744073709551616 % 2 ^ r = X / 18446744073709551616 % 2 ^ r := Nat.mod_mod_of_dvd _ ⟨2 ^ (64 - r), e2⟩
  have a3 : X / 2 ^ r % 18446744073709551616 = X / 2 ^ r % 2 ^ (64 - r) + 2 ^ (64 - r) * (X / 18446744073709551616 % 2 ^ r) := by
    have e3 : (18446744073709551616 : Nat) = 2 ^ (64 - r) * 2 ^ r := by rw [e2, Nat.mul_comm]
    have e4 : X / 18446744073709551616 = X / 2 ^ r / 2 ^ (64 - r) := by rw [Nat.div_div_eq_div_mul, ← e2]
    rw [e4]
    conv => lhs; rw [e3]
    rw [Nat.mod_mul]
  have h1 : X / 2 ^ r % 2 ^ (64 - r) < 2 ^ (64 - r) := Nat.mod_lt _ hp
  have h2 : X / 2 ^ r % 18446744073709551616 < 18446744073709551616 := Nat.mod_lt _ (by decide)
  rw [a1, a2, a3]
  rw [a3] at h2
  clear a1 a2 a3 e2
  generalize X / 2 ^ r % 2 ^ (64 - r) = A at *
  generalize X / 18446744073709551616 % 2 ^ r = B at *
  rw [Nat.mul_comm (2 ^ (64 - r)) B] at h2 ⊢
  have hj : B * 2 ^ (64 - r) ||| A = B * 2 ^ (64 - r) + A := nat_join (64 - r) (B * 2 ^ (64 - r)) A (Nat.mul_mod_left _ _) h1
  generalize 2 ^ (64 - r) = t at *
  rw [u64_or_nat _ _ (by omega) (by omega), Nat.or_comm, hj, Nat.add_comm]
theorem words_one (n d : Nat) (hr : d % 64 = 0) : wn n (d / 64) = n / 2 ^ d % 18446744073709551616 := by
  unfold wn
  congr 3; omega
theorem b_53 (x q : Nat) (h : q < 9007199254740992) (hx : x = q % 18446744073709551616) : bits .and .u64 (x : Int) 9007199254740991 = (q : Int) := by
  rw [show (9007199254740991 : Int) = ((9007199254740991 : Nat) : Int) from rfl, u64_and_nat _ _ (by omega) (by omega)]
  have := Nat.and_two_pow_sub_one_eq_mod x 53
  rw [show (2 ^ 53 - 1 : Nat) = 9007199254740991 from by decide] at this
  rw [this]; omega
end Go.Proofs.Ytedkbjimofiphaa

namespace Go.Proofs.Ytedkbjimofiphaa
open Go.RowKit Fl
theorem len138 (z : Int) : (Try.prog.info? 99).map (·.size) = some (WL z).length := by rw [WL_len]; exact size138
theorem rangeB {w wx : World} {z : Int} (h : Below (w.alloc (.cells (WL z).toArray 99)).heap.size (w.alloc (.cells (WL z).toArray 99)) wx) : wx.rangeAt w.heap.size 0 (WL z) :=
  ((row_alloc w z).below h (by simp)).range
theorem cellB {w wx : World} {n : Nat} (h : Below (w.alloc (.cells (WL (n : Int)).toArray 99)).heap.size (w.alloc (.cells (WL (n : Int)).toArray 99)) wx) (t : Nat) (ht : t < 40) : wx.cell? ⟨w.heap.size, t, none⟩ = some (.int .u64 (wn n t)) := by
  rw [(((row_alloc w (n : Int)).below h (by simp)) t ht).1, wd_nat]
set_option maxRecDepth 100000 in
set_option maxHeartbeats 1000000 in
theorem c145a (n : Nat) (w : World) (h : n < 2 ^ (64 * CAP)) (hs : blen n ≤ 53) : Calls Try.prog 50 #[.agg (WL (n : Int)).toArray] w fun e w' => e = .returned (.float .f64 (rnd n)) ∧ Below w.heap.size w w' := by
  have hn := blen_le_small n hs
  have H := Lib.hid (rnd_small n hn)
  have hw0 : wn n 0 = n := by unfold wn; rw [Nat.mul_zero, Nat.pow_zero, Nat.div_one]; exact Nat.mod_eq_of_lt (by omega)
  have HW := Lib.hid hw0
  have H180 := Lib.hid (fun wx => c180 n wx h)
  have HB0 := Lib.hid (Below.refl (w.alloc (.cells (WL (n : Int)).toArray 99)).heap.size (w.alloc (.cells (WL (n : Int)).toArray 99)))
  have hs' : (blen n : Int) ≤ 53 := by omega
  clear hn hw0 h hs
  go_enter Try.func50, Try.ntmps50
  go_wp2_with (first
    | (refine wpList_load_mid rfl 99 (.tmp 1) rfl w.heap.size 0 rfl (WL (n : Int)) _ (rangeB HB0.out) Try.underlying99 rfl (len138 _) ?_)
    | (go_at_call 71; fail))
  refine (H180.out _).mono ?_
  rintro e w1 ⟨rfl, hb⟩
  have c0 := cellB hb 0 (by omega)
  rw [HW.out] at c0
  have B1 := below_of_alloc (Below.refl _ _) hb
  clear hb
  go_wp2
  go_ret
  exact ⟨ret_float H.out.symm, B1⟩
set_option maxRecDepth 100000 in
set_option maxHeartbeats 1000000 in
theorem c145b (n d : Nat) (w : World) (h : n < 2 ^ (64 * CAP)) (hs : blen n = d + 53) (hd : 2046 ≤ d) : Calls Try.prog 50 #[.agg (WL (n : Int)).toArray] w fun e w' => e = .returned (.float .f64 (rnd n)) ∧ Below w.heap.size w w' := by
  have hr : rnd n = 9218868437227405312 := by
    have h1 := rung_drop n d hs
    have h2 := (top_bounds n d hs).1
    have h3 : n / 2 ^ d ≤ rhe n (2 ^ d) := by unfold rhe; omega
    unfold rnd INF; omega
  rw [hr]
  have H180 := Lib.hid (fun wx => c180 n wx h)
  have HB0 := Lib.hid (Below.refl (w.alloc (.cells (WL (n : Int)).toArray 99)).heap.size (w.alloc (.cells (WL (n : Int)).toArray 99)))
  have hsi : (blen n : Int) = (d : Int) + 53 := by omega
  have HS := Lib.hid hsi
  have hdi : (2046 : Int) ≤ (d : Int) := by omega
  have hd2 : (d : Int) ≤ 2560 := by have := blen_lt n _ h; rw [CAP_eq] at this; omega
  clear hr h hs hsi hd
  go_enter Try.func50, Try.ntmps50
  go_wp2_with (first
    | (refine wpList_load_mid rfl 99 (.tmp 1) rfl w.heap.size 0 rfl (WL (n : Int)) _ (rangeB HB0.out) Try.underlying99 rfl (len138 _) ?_)
    | (go_at_call 71; fail))
  refine (H180.out _).mono ?_
  rintro e w1 ⟨rfl, hb⟩
  rw [HS.out]
  have B1 := below_of_alloc (Below.refl _ _) hb
  clear hb
  go_wp2_with (go_at_call 49; refine (c137p _).mono ?_; rintro e w' ⟨rfl, rfl⟩)
  go_ret
  exact ⟨rfl, B1⟩
theorem wrap_succ (q : Nat) (h : q < 9007199254740992) : IntKind.u64.wrap ((q : Int) + 1) = ((q + 1 : Nat) : Int) := by rw [IntKind.wrap_u64]; omega
def rb (n k : Nat) : Bool := decide (n % 2 ^ k ≠ 0)
theorem rest_step (n k : Nat) (h : n % 2 ^ k = 0) : decide (n / 2 ^ k % 2 = 1) = rb n (k + 1) := by
  unfold rb
  have hp := Nat.two_pow_pos k
  have e : n % 2 ^ (k + 1) = n % 2 ^ k + 2 ^ k * (n / 2 ^ k % 2) := by rw [Nat.pow_succ, Nat.mod_mul]
  rw [e, h, Nat.zero_add]
  have h2 : n / 2 ^ k % 2 = 0 ∨ n / 2 ^ k % 2 = 1 := by omega
  rcases h2 with h2 | h2 <;> rw [h2] <;> simp
theorem rest_more (n k m : Nat) (hk : k ≤ m) (h : n % 2 ^ k ≠ 0) : n % 2 ^ m ≠ 0 := by
  intro h0
  apply h
  have : 2 ^ k ∣ 2 ^ m := Nat.pow_dvd_pow 2 hk
  exact Nat.mod_eq_zero_of_dvd (Nat.dvd_trans this (Nat.dvd_of_mod_eq_zero h0))
set_option maxRecDepth 100000 in
set_option maxHeartbeats 4000000 in
theorem c145c (n d : Nat) (w : World) (h : n < 2 ^ (64 * CAP)) (hs : blen n = d + 53) (hd1 : 1 ≤ d) (hd : d ≤ 2045) : Calls Try.prog 50 #[.agg (WL (n : Int)).toArray] w fun e w' => e = .returned (.float .f64 (rnd n)) ∧ Below w.heap.size w w' := by
  obtain ⟨t1, t2⟩ := top_bounds n d hs
  have hrung := rung_drop n d hs
  have hrhe := rhe_half n d hd1
  have H180 := Lib.hid (fun wx => c180 n wx h)
  have HB0 := Lib.hid (Below.refl (w.alloc (.cells (WL (n : Int)).toArray 99)).heap.size (w.alloc (.cells (WL (n : Int)).toArray 99)))
  have hsi : (blen n : Int) = (d : Int) + 53 := by omega
  have HS := Lib.hid hsi
  have hdi : (1 : Int) ≤ (d : Int) := by omega
  have hd2 : (d : Int) ≤ 2045 := by omega
  have HD1 := Lib.hid hd1
  have HD := Lib.hid hd
  have hq : (d : Int) / 64 + 1 < 40 := by omega
  have hx : n / 2 ^ d % 18446744073709551616 = n / 2 ^ d := Nat.mod_eq_of_lt (by omega)
  have hm := b_53 (n / 2 ^ d) (n / 2 ^ d) t2 hx.symm
  have hj := words_join n d
  have ho := words_one n d
  rw [hx] at hj ho
  have e5 := wrap_succ (n / 2 ^ d) t2
  have eo := b_one (n / 2 ^ d) (Nat.lt_of_lt_of_le t2 (by decide))
  clear hx
  generalize n / 2 ^ d = q at *
  have HT1 := Lib.hid t1
  have HT2 := Lib.hid t2
  have HRU := Lib.hid hrung
  have HRH := Lib.hid hrhe
  have HE5 := Lib.hid e5
  have HEO := Lib.hid eo
  clear h hs hsi hd t1 t2 hrung hrhe hd1 e5 eo
  go_enter Try.func50, Try.ntmps50
  go_wp2_with (first
    | (refine wpList_load_mid rfl 99 (.tmp 1) rfl w.heap.size 0 rfl (WL (n : Int)) _ (rangeB HB0.out) Try.underlying99 rfl (len138 _) ?_)
    | (go_at_call 71; fail))
  refine (H180.out _).mono ?_
  rintro e w1 ⟨rfl, hb⟩
  rw [HS.out]
  have hq2 : d / 64 < 40 := by omega
  have hq3 : d / 64 + 1 < 40 := by omega
  have c0 := cellB hb (d / 64) hq2
  have c1 := cellB hb (d / 64 + 1) hq3
  have HB := Lib.hid hb
  clear hb H180 HB0 hq2 hq3
  go_upto_if 31 with fail
  go_cut [5] (fun s wx => s = .int .u64 (q : Int) ∧ wx = w1)
  case first =>
    by_cases hr : 0 < d % 64
    · have hj' := hj hr
      have e1 : (wn n (d / 64) : Int) / 2 ^ (d % 64) = ((wn n (d / 64) / 2 ^ (d % 64) : Nat) : Int) := by push_cast; rfl
      have hri : (0 : Int) < (d : Int) % 64 := by omega
      clear hj ho hr
      generalize wn n (d / 64) / 2 ^ (d % 64) = V at *
      go_wp2
      go_meet
      exact ⟨rfl, rfl⟩
    · have hr0 : d % 64 = 0 := by omega
      have ho' := ho hr0
      have hri : ¬ (0 : Int) < (d : Int) % 64 := by omega
      have e1 : (wn n (d / 64) : Int) / 2 ^ (d % 64) = (q : Int) := by
        rw [hr0, ← ho', Int.pow_zero, Int.ediv_one]
      clear hj ho hr ho' hr0
      go_wp2
      go_meet
      exact ⟨rfl, rfl⟩
  case rest =>
    obtain ⟨rfl, rfl⟩ := hcut
    clear hj ho c0 c1
    go_wp2_with (first
      | (refine wpList_load_mid rfl 99 (.tmp 1) rfl w.heap.size 0 rfl (WL (n : Int)) _ (rangeB HB.out) Try.underlying99 rfl (len138 _) ?_)
      | (go_at_call 72; fail))
    have e9 : ((d : Int) - 1) = ((d - 1 : Nat) : Int) := by have := HD1.out; omega
    rw [e9]
    refine (c181 n (d - 1) _ (by have := HD.out; omega)).mono ?_
    rintro e w2 ⟨rfl, hb2⟩
    have HB2 := Lib.hid (HB.out.trans (hb2.mono HB.out.size))
    clear hb2 HB
    obtain ⟨hf, hhf⟩ : ∃ b : Bool, b = decide (n / 2 ^ (d - 1) % 2 = 1) := ⟨_, rfl⟩
    rw [← hhf]
    have HF := Lib.hid hhf
    clear hhf
    go_upto_block 0 with fail
    go_cut [7, 8] (fun r i wx => r = .bool (rb n (d - 1)) ∧ Hid (Below (w.alloc (.cells (WL (n : Int)).toArray 99)).heap.size (w.alloc (.cells (WL (n : Int)).toArray 99)) wx))
    case first =>
      go_wp2_with fail
      go_loopw [7, 8] (fun r i wx => ∃ k : Nat, k ≤ d - 1 ∧ i = .int .i64 k ∧ r = .bool (rb n k) ∧ Hid (Below (w.alloc (.cells (WL (n : Int)).toArray 99)).heap.size (w.alloc (.cells (WL (n : Int)).toArray 99)) wx)) (fun _ i _ => d - (intOf i).toNat)
      case atStart => exact ⟨0, by omega, rfl, by simp [rb, Nat.mod_one], HB2⟩
      case round =>
        obtain ⟨k, hk, rfl, rfl, hB⟩ := hrel
        by_cases hz : n % 2 ^ k = 0
        · have er : rb n k = false := decide_eq_false (by omega)
          rw [er]
          by_cases hlt : k < d - 1
          · have hki : (k : Int) < (d : Int) - 1 := by omega
            have hst := rest_step n k hz
            have HK := Lib.hid (show k < 2560 by have := HD.out; omega)
            have HLT := Lib.hid hlt
            clear er hz hlt
            go_wp2_with (first
              | (refine wpList_load_mid rfl 99 (.tmp 1) rfl w.heap.size 0 rfl (WL (n : Int)) _ (rangeB hB.out) Try.underlying99 rfl (len138 _) ?_)
              | (go_at_call 72; refine (c181 n k _ HK.out).mono ?_; rintro e w3 ⟨rfl, hb3⟩; rw [hst]; have HB3 := Lib.hid (hB.out.trans (hb3.mono hB.out.size)); clear hb3))
            go_roundw
            case rel => exact ⟨k + 1, by have := HLT.out; omega, by go_num, rfl, HB3⟩
            case measure => have := HLT.out; have := HD1.out; simp [intOf]; omega
          · have hk2 : k = d - 1 := by omega
            have hki : ¬ (k : Int) < (d : Int) - 1 := by omega
            have e7 : rb n (d - 1) = false := by rw [← hk2]; exact er
            have E7 := Lib.hid e7
            clear er hz hlt hk2 e7
            go_wp2
            go_meet
            exact ⟨by rw [E7.out], hB⟩
        · have er : rb n k = true := decide_eq_true (by omega)
          have e7 : rb n (d - 1) = true := decide_eq_true (rest_more n k (d - 1) hk (by omega))
          have E7 := Lib.hid e7
          rw [er]
          clear er hz e7
          go_wp2
          all_goals
            go_meet
            exact ⟨by rw [E7.out], hB⟩
    case rest =>
      obtain ⟨rfl, hB⟩ := hcut
      clear HB2
      have eo := HEO.out
      have e5 := HE5.out
      have hM : Hid (rhe n (2 ^ d) = q + (if (hf && (rb n (d - 1) || decide (q % 2 = 1))) = true then 1 else 0)) := by
        have h1 := HRH.out
        have h2 := HF.out
        rw [h2]
        unfold rb
        refine Lib.hid (h1.trans ?_)
        simp only [Bool.and_eq_true, Bool.or_eq_true, decide_eq_true_eq]
      have hR : Hid (rnd n = min (d * 4503599627370496 + rhe n (2 ^ d)) INF) := Lib.hid (by unfold rnd; rw [HRU.out])
      obtain ⟨M, hMM⟩ : ∃ M, M = rhe n (2 ^ d) := ⟨_, rfl⟩
      rw [← hMM] at hM hR
      have hm1 : Hid (4503599627370496 ≤ M ∧ M ≤ 9007199254740992) := by
        have h1 := hM.out
        have h2 := HT1.out
        have h3 := HT2.out
        refine Lib.hid ?_
        rw [h1]; split <;> omega
      have B4 : Hid (Below w.heap.size w wc) := Lib.hid (below_of_alloc (Below.refl _ _) hB.out)
      clear hMM HRH HF HRU hm HEO HE5
      generalize rb n (d - 1) = R at *
      generalize decide (q % 2 = 1) = O at *
      clear HT1 HT2 hB HS
      go_upto_region 16 with fail
      go_cut [70] (fun s wx => s = .bool (hf && (R || O)) ∧ wx = wc)
      case first =>
        cases hf <;> cases R <;> cases O
        all_goals
          go_wp2
          all_goals
            go_meet
            exact ⟨rfl, rfl⟩
      case rest =>
        obtain ⟨rfl, rfl⟩ := hcut
        generalize (hf && (R || O)) = up at *
        go_upto_if 70 with fail
        go_cut [5] (fun s wx => s = .int .u64 (M : Int) ∧ wx = wc)
        case first =>
          cases up
          · have e8 : q = M := by have := hM.out; simp at this; omega
            subst e8
            clear e5 eo
            go_wp2
            go_meet
            exact ⟨rfl, rfl⟩
          · have e8 : q + 1 = M := by have := hM.out; simp at this; omega
            have E8 := Lib.hid e8
            clear eo e8
            go_wp2
            go_meet
            exact ⟨by have e := E8.out; rw [← e]; rfl, rfl⟩
        case rest =>
          obtain ⟨rfl, rfl⟩ := hcut
          clear eo e5 hM
          have hR1 := hR.out
          obtain ⟨m1, m2⟩ := hm1.out
          by_cases hM : M = 9007199254740992
          · have e1 : ((M : Int) == 9007199254740992) = true := by rw [hM]; rfl
            have e2 : (M : Int) / 2 = 4503599627370496 := by rw [hM]; rfl
            have d0 : d ≤ 2045 := HD.out
            by_cases hT : d = 2045
            · have r1 : rnd n = 9218868437227405312 := by rw [hR1, hM, hT]; rfl
              have dt : (d : Int) + 1 + 1 = 2047 := by omega
              have R1 := Lib.hid r1
              clear hR1 r1 m1 m2 hM hR
              go_wp2_with (go_at_call 49; refine (c137p _).mono ?_; rintro e w' ⟨rfl, rfl⟩)
              go_ret
              exact ⟨ret_float R1.out.symm, B4.out⟩
            · have r1 : rnd n = (d + 2) * 4503599627370496 := by rw [hR1, hM]; unfold INF; omega
              have dt : (d : Int) + 1 + 1 ≤ 2046 := by omega
              have hu : U ((d + 2) * 4503599627370496) := by unfold U; omega
              have R1 := Lib.hid r1
              have hj : bits .or .u64 (((d : Int) + 1 + 1) * 4503599627370496) (bits .and .u64 4503599627370496 4503599627370495) = (((d + 2) * 4503599627370496 : Nat) : Int) := by
                have e9 := b_join (d + 1) 4503599627370496 (by omega) (by omega) (by omega)
                rw [show ((d + 1 : Nat) : Int) - 1074 + 1075 = (d : Int) + 1 + 1 by omega, show (d + 1) * 4503599627370496 + 4503599627370496 = (d + 2) * 4503599627370496 by omega] at e9
                exact e9
              clear hR1 r1 m1 m2 hM hR
              generalize (d + 2) * 4503599627370496 = R at *
              have HU := Lib.hid hu
              clear hu
              go_wp2_with (go_at_call 67; refine (x153 _ HU.out _).mono ?_; rintro e w' ⟨rfl, rfl⟩)
              go_ret
              exact ⟨ret_float R1.out.symm, B4.out⟩
          · have e1 : ((M : Int) == 9007199254740992) = false := by simp; omega
            have d0 : d ≤ 2045 := HD.out
            have r1 : rnd n = d * 4503599627370496 + M := by rw [hR1]; unfold INF; omega
            have dt : (d : Int) + 1 ≤ 2046 := by omega
            have hu : U (d * 4503599627370496 + M) := by unfold U; omega
            have hj : bits .or .u64 (((d : Int) + 1) * 4503599627370496) (bits .and .u64 (M : Int) 4503599627370495) = ((d * 4503599627370496 + M : Nat) : Int) := by
              have e9 := b_join d M (by omega) (by omega) (by omega)
              rw [show (d : Int) - 1074 + 1075 = (d : Int) + 1 by omega] at e9
              exact e9
            have R1 := Lib.hid r1
            clear hR1 r1 hM hR m1 m2
            generalize d * 4503599627370496 + M = R at *
            have HU := Lib.hid hu
            clear hu
            go_wp2_with (go_at_call 67; refine (x153 _ HU.out _).mono ?_; rintro e w' ⟨rfl, rfl⟩)
            go_ret
            exact ⟨ret_float R1.out.symm, B4.out⟩
theorem c145 (n : Nat) (w : World) (h : n < 2 ^ (64 * CAP)) : Calls Try.prog 50 #[.agg (WL (n : Int)).toArray] w fun e w' => e = .returned (.float .f64 (rnd n)) ∧ Below w.heap.size w w' := by
  by_cases h1 : blen n ≤ 53
  · exact c145a n w h h1
  · obtain ⟨d, hd⟩ : ∃ d, blen n = d + 53 := ⟨blen n - 53, by omega⟩
    by_cases h2 : d ≤ 2045
    · exact c145c n d w h hd (by omega) h2
    · exact c145b n d w h hd (by omega)
end Go.Proofs.Ytedkbjimofiphaa
