/- A row of ints that is sorted in memory; the order by levels: scene.painted$1. slices.swapRangeCmpFunc, rotateCmpFunc, Reverse at ints. slices.insertionSortCmpFunc at ints, by the order of levels. slices.symMergeCmpFunc at ints, by the order of levels: of one element, and of many. -/
import Derived.Test.YtedkbjimofiphaaMgSrt
import Derived.Test.YtedkbjimofiphaaMgGeoA
import Derived.Test.YtedkbjimofiphaaAccE
import Derived.BigRegion
import Derived.Deep.QuietTactic
import Derived.BigQuiet
namespace Go.Proofs.Ytedkbjimofiphaa
open Go.RowKit Fl
theorem range_setV {W : World} {b n : Nat} {xs : List Value} (h : W.rangeAt b 0 xs) (x : Value) : (W.setCell ⟨b, n, none⟩ x).rangeAt b 0 (xs.set n x) := fun j v hj => by
  rw [Nat.zero_add]
  by_cases hjn : j = n
  · subst hjn
    have hl : j < xs.length := by have := (List.getElem?_eq_some_iff.1 hj).1; rwa [List.length_set] at this
    rw [List.getElem?_set_self hl] at hj
    injection hj with hj
    subst hj
    have h0 := h j _ (List.getElem?_eq_getElem hl)
    rw [Nat.zero_add] at h0
    exact World.cell?_setCell_same _ _ _ h0
  · rw [List.getElem?_set_ne (fun e => hjn e.symm)] at hj
    have h0 := h j v hj
    rw [Nat.zero_add] at h0
    rw [World.cell?_setCell_other _ _ _ _ (by intro e; injection e with _ e; exact hjn (by simpa using e.symm))]
    exact h0
def iv (x : Nat) : Value := .int .i64 (x : Int)
/-- a row of ints in a block -/
structure DAt (w : World) (g : Nat) (d : List Nat) : Prop where
  r : w.rangeAt g 0 (d.map iv)
  t : w.there g 0 d.length
  l : g < w.heap.size
theorem DAt.below {w w' : World} {g B : Nat} {d : List Nat} (h : DAt w g d) (hb : Below B w w') (hB : g < B) : DAt w' g d := ⟨range_below h.r hb hB, there_below h.t hb hB, Nat.lt_of_lt_of_le h.l hb.size⟩
theorem DAt.get {w : World} {g j : Nat} {d : List Nat} {x : Nat} (h : DAt w g d) (hj : d[j]? = some x) : w.cell? ⟨g, j, none⟩ = some (.int .i64 (x : Int)) := by
  have := h.r j (iv x) (by rw [List.getElem?_map, hj]; rfl)
  rwa [Nat.zero_add] at this
theorem DAt.fro {w : World} {g j : Nat} {d : List Nat} (h : DAt w g d) (hj : j < d.length) : w.frozen? ⟨g, j, none⟩ = false := by
  have := (h.t j hj).2
  rwa [Nat.zero_add] at this
theorem DAt.set {w : World} {g : Nat} {d : List Nat} (h : DAt w g d) (j : Nat) (x : Nat) : DAt (w.setCell ⟨g, j, none⟩ (.int .i64 (x : Int))) g (d.set j x) :=
  ⟨by rw [List.map_set]; exact range_setV h.r _, by rw [List.length_set]; exact there_set h.t _ _, by rw [World.size_setCell]; exact h.l⟩
theorem DAt.drew {w : World} {g q : Nat} {d : List Nat} (h : DAt w g d) : DAt (w.drewN q) g d := ⟨h.r, h.t, h.l⟩
theorem DAt.store {w : World} {g j : Nat} {d : List Nat} (h : DAt w g d) (hj : j < d.length) (x : Nat) : (store ⟨g, j, none⟩ (.int .i64 (x : Int))).run Try.prog w = .ok () (w.setCell ⟨g, j, none⟩ (.int .i64 (x : Int))) := by
  rw [run_store Try.prog _ _ _ _ rfl, h.get (List.getElem?_eq_getElem hj), h.fro hj]; rfl
theorem DAt.only {w w' : World} {b g : Nat} {d : List Nat} (h : DAt w g d) (ho : Only b w w') (hne : g ≠ b) : DAt w' g d := by
  have e : ∀ o, w'.cell? ⟨g, o, none⟩ = w.cell? ⟨g, o, none⟩ := fun _ => World.cell?_of_block (w := w) (ho.block g h.l hne)
  have f : ∀ o, w'.frozen? ⟨g, o, none⟩ = w.frozen? ⟨g, o, none⟩ := fun _ => World.frozen?_of_block (w := w) (ho.block g h.l hne)
  exact ⟨fun j v hj => (e _).trans (h.r j v hj), fun j hj => by rw [e, f]; exact h.t j hj, Nat.lt_of_lt_of_le h.l ho.size⟩
/-- what the order reads: all spots' levels -/
structure CE (w : World) (bx ga n c : Nat) (lv : Nat → Nat) : Prop where
  box : w.cell? ⟨bx, 0, none⟩ = some (.slice (some ⟨ga, 0, none⟩) n c)
  at_ : ∀ i, i < n → w.cell? ⟨ga, i * 25 + 23, none⟩ = some (.float .f64 (lv i))
  u : ∀ i, i < n → U (lv i) ∧ pl (lv i) ≠ 9223372036854775807
  lb : bx < w.heap.size
  la : ga < w.heap.size
theorem CE.only {w w' : World} {g bx ga n c : Nat} {lv : Nat → Nat} (h : CE w bx ga n c lv) (ho : Only g w w') (h1 : bx ≠ g) (h2 : ga ≠ g) : CE w' bx ga n c lv :=
  ⟨(World.cell?_of_block (w := w) (ho.block bx h.lb h1)).trans h.box, fun i hi => (World.cell?_of_block (w := w) (ho.block ga h.la h2)).trans (h.at_ i hi), h.u, Nat.lt_of_lt_of_le h.lb ho.size, Nat.lt_of_lt_of_le h.la ho.size⟩
theorem CE.below {w w' : World} {bx ga n c : Nat} {lv : Nat → Nat} (h : CE w bx ga n c lv) (hb : Below w.heap.size w w') : CE w' bx ga n c lv :=
  ⟨(hb.cell (p := ⟨bx, 0, none⟩) h.lb).trans h.box, fun i hi => (hb.cell (p := ⟨ga, i * 25 + 23, none⟩) h.la).trans (h.at_ i hi), h.u, Nat.lt_of_lt_of_le h.lb hb.size, Nat.lt_of_lt_of_le h.la hb.size⟩
def kf (lv : Nat → Nat) (i : Nat) : Int := zk (pl (lv i))
def cmp3 (a b : Int) : Int := if a < b then -1 else if b < a then 1 else 0
theorem order_lt {x y : Nat} (hx : U x ∧ pl x ≠ 9223372036854775807) (hy : U y ∧ pl y ≠ 9223372036854775807) : (FloatKind.f64.format.order x y == some .lt) = decide (zk (pl x) < zk (pl y)) ∧ (FloatKind.f64.format.order x y == some .gt) = decide (zk (pl y) < zk (pl x)) := by
  rw [order_cases x y hx.1 hy.1]
  unfold fltP feqP
  simp only [ne_eq, hx.2, hy.2, not_false_eq_true, decide_true, Bool.true_and]
  rcases (by omega : zk (pl x) < zk (pl y) ∨ zk (pl x) = zk (pl y) ∨ zk (pl y) < zk (pl x)) with h | h | h
  · simp [h, show ¬ zk (pl y) < zk (pl x) by omega]
  · simp [h]
  · simp [h, show ¬ zk (pl x) < zk (pl y) by omega, show ¬ zk (pl x) = zk (pl y) by omega]
set_option maxRecDepth 100000 in
set_option maxHeartbeats 1000000 in
theorem c57 {w : World} {bx ga n c : Nat} {lv : Nat → Nat} (h : CE w bx ga n c lv) (i j : Nat) (hi : i < n) (hj : j < n) :
    Calls Try.prog 57 #[.int .i64 i, .int .i64 j, .pointer (some ⟨bx, 0, none⟩)] w fun e w' => e = .returned (.int .i64 (cmp3 (kf lv i) (kf lv j))) ∧ ∃ q, w' = w.drewN q := by
  have o1 := (order_lt (h.u i hi) (h.u j hj)).1
  have o2 := (order_lt (h.u i hi) (h.u j hj)).2
  have H := Lib.hid h
  have b0 := h.box
  have ci := h.at_ i hi
  have cj := h.at_ j hj
  have ek : kf lv i = zk (pl (lv i)) := rfl
  have ej : kf lv j = zk (pl (lv j)) := rfl
  have EK := Lib.hid (And.intro ek ej)
  have di : decide ((i : Int) < (n : Int)) = true := decide_eq_true (by omega)
  have dj : decide ((j : Int) < (n : Int)) = true := decide_eq_true (by omega)
  clear h ek ej
  generalize kf lv i = ki at *
  generalize kf lv j = kj at *
  generalize lv i = x at *
  generalize lv j = y at *
  go_enter Try.func57, Try.ntmps57
  go_upto_region 1 with fail
  go_quiet (fail)
  have hc : cmp3 ki kj = if zk (pl x) < zk (pl y) then -1 else if zk (pl y) < zk (pl x) then 1 else 0 := by rw [EK.out.1, EK.out.2]; rfl
  rcases (by omega : zk (pl x) < zk (pl y) ∨ (¬ zk (pl x) < zk (pl y) ∧ zk (pl y) < zk (pl x)) ∨ (¬ zk (pl x) < zk (pl y) ∧ ¬ zk (pl y) < zk (pl x))) with h1 | ⟨h1, h2⟩ | ⟨h1, h2⟩
  · rw [if_pos h1] at hc
    have HC := Lib.hid hc
    have h1d : decide (zk (pl x) < zk (pl y)) = true := decide_eq_true h1
    clear h1 hc
    rw [h1d]
    go_wp2
    go_ret
    exact ⟨by rw [HC.out]; rfl, ⟨_, rfl⟩⟩
  · rw [if_neg h1, if_pos h2] at hc
    have HC := Lib.hid hc
    have h1d : decide (zk (pl x) < zk (pl y)) = false := decide_eq_false h1
    have h2d : decide (zk (pl y) < zk (pl x)) = true := decide_eq_true h2
    clear h1 h2 hc
    rw [h1d]
    go_wp2
    go_quiet (fail)
    go_wp2
    go_ret
    exact ⟨by rw [HC.out]; rfl, ⟨_, World.drewN_drewN ..⟩⟩
  · rw [if_neg h1, if_neg h2] at hc
    have HC := Lib.hid hc
    have h1d : decide (zk (pl x) < zk (pl y)) = false := decide_eq_false h1
    have h2d : decide (zk (pl y) < zk (pl x)) = false := decide_eq_false h2
    clear h1 h2 hc
    rw [h1d]
    go_wp2
    go_quiet (fail)
    go_wp2
    go_ret
    exact ⟨by rw [HC.out]; rfl, ⟨_, World.drewN_drewN ..⟩⟩
end Go.Proofs.Ytedkbjimofiphaa

namespace Go.Proofs.Ytedkbjimofiphaa
open Go.RowKit Fl
theorem DAt.two {w : World} {g j k : Nat} {d : List Nat} (h : DAt w g d) (x y : Nat) : DAt ((w.setCell ⟨g, j, none⟩ (.int .i64 (x : Int))).setCell ⟨g, k, none⟩ (.int .i64 (y : Int))) g ((d.set j x).set k y) := (h.set j x).set k y
theorem DAt.drew1 {w : World} {g : Nat} {d : List Nat} (h : DAt w g d) : DAt w.drew g d := ⟨h.r, h.t, h.l⟩
theorem two_only {w0 w : World} {g j k : Nat} (h : Only g w0 w) (u v : Value) : Only g w0 ((w.setCell ⟨g, j, none⟩ u).setCell ⟨g, k, none⟩ v) := (h.setCell u).setCell v
set_option maxRecDepth 100000 in
set_option maxHeartbeats 1000000 in
theorem c91 (g cap a b k : Nat) (F : Value) (A X M Y Z : List Nat) (w : World) (L : Nat) (hd : DAt w g (A ++ (X ++ (M ++ (Y ++ Z))))) (hL : (A ++ (X ++ (M ++ (Y ++ Z)))).length = L)
    (hs : L ≤ 1099511627776) (ha : A.length = a) (hX : X.length = k) (hY : Y.length = k) (hb : b = a + k + M.length) :
    Calls Try.prog 91 #[.slice (some ⟨g, 0, none⟩) L cap, .int .i64 (a : Int), .int .i64 (b : Int), .int .i64 (k : Int), F] w fun e w' => e = .returned (.tuple #[]) ∧ DAt w' g (A ++ (Y ++ (M ++ (X ++ Z)))) ∧ Only g w w' := by
  have hkL : b + k ≤ L := by rw [← hL]; simp only [List.length_append]; omega
  have H0 := Lib.hid (show DAt w g (sw A X M Y Z 0) ∧ Only g w w from ⟨by rw [sw_start]; exact hd, Only.refl _ _⟩)
  clear hd
  go_enter Try.func91, Try.ntmps91
  go_wp2_with fail
  go_loopw [10] (fun ii wx => ∃ i : Nat, ii = .int .i64 (i : Int) ∧ i ≤ k ∧ Hid (DAt wx g (sw A X M Y Z i) ∧ Only g w wx)) (fun ii _ => k - (intOf ii).toNat)
  case atStart => exact ⟨0, rfl, Nat.zero_le _, H0⟩
  case round =>
    obtain ⟨i, rfl, hik, hI⟩ := hrel
    by_cases hlt : i < k
    · obtain ⟨x, y, A', M', B', e1, e2, l1, l2⟩ := sw_step (Z := Z) (A := A) (M := M) hX hY hlt
      have D := hI.out.1
      rw [e1] at D
      have LD : (A' ++ x :: (M' ++ y :: B')).length = L := by rw [← e1, sw_len, hL]
      have cx := D.get (get_mid (y := x) (m := a + i) (by omega))
      have cy := D.get (get_far (y := y) (k := b + i) (by omega))
      have fx := D.fro (j := a + i) (by omega)
      have fy := D.fro (j := b + i) (by omega)
      have hab : a + i ≠ b + i := by omega
      have EN := Lib.hid (And.intro e2 (And.intro l1 (And.intro l2 hb)))
      have DD := Lib.hid D
      clear e1 e2 l1 l2 D LD
      have b1 : (a : Int) + (i : Int) < (L : Int) := by omega
      have b2 : (b : Int) + (i : Int) < (L : Int) := by omega
      clear hL hX hY hb
      go_wp2
      go_region
      go_wp2
      go_roundw
      case rel =>
        refine ⟨i + 1, by go_num, by omega, ?_⟩
        obtain ⟨e2, l1, l2, hb⟩ := EN.out
        have T := DD.out.two (j := a + i) (k := b + i) y x
        rw [swap_far (by omega) (by omega), ← e2] at T
        exact ⟨T.drew1, (two_only hI.out.2 _ _).drew⟩
      case measure => simp [intOf]; omega
    · have hik : i = k := by omega
      subst hik
      have H1 := hI.out
      rw [sw_end hX hY] at H1
      have H2 := Lib.hid H1
      clear H1 hI H0
      go_wp2
      go_end0
      exact ⟨rfl, H2.out⟩
set_option maxRecDepth 100000 in
set_option maxHeartbeats 1000000 in
theorem c90 (g cap a m b : Nat) (F : Value) (A X Y Z : List Nat) (w : World) (L : Nat) (hd : DAt w g (A ++ (X ++ (Y ++ Z)))) (hL : (A ++ (X ++ (Y ++ Z))).length = L)
    (hs : L ≤ 1099511627776) (ha : A.length = a) (hm : m = a + X.length) (hb : b = m + Y.length) (hX : 0 < X.length) (hY : 0 < Y.length) :
    Calls Try.prog 90 #[.slice (some ⟨g, 0, none⟩) L cap, .int .i64 (a : Int), .int .i64 (m : Int), .int .i64 (b : Int), F] w fun e w' => e = .returned (.tuple #[]) ∧ DAt w' g (A ++ (Y ++ (X ++ Z))) ∧ Only g w w' := by
  have hbL : b ≤ L := by rw [← hL]; simp only [List.length_append]; omega
  have ham : a ≤ m := by omega
  have hmb : m ≤ b := by omega
  have H0 := Lib.hid (show ∃ P X' Y' Q, DAt w g (P ++ (X' ++ (Y' ++ Q))) ∧ Only g w w ∧ (P ++ (X' ++ (Y' ++ Q))).length = L ∧ P.length + X'.length = m ∧ X'.length = m - a ∧ Y'.length = b - m ∧ P ++ (Y' ++ (X' ++ Q)) = A ++ (Y ++ (X ++ Z)) from
    ⟨A, X, Y, Z, hd, Only.refl _ _, hL, by omega, by omega, by omega, rfl⟩)
  have e1 : (m : Int) - (a : Int) = ((m - a : Nat) : Int) := by omega
  have e2 : (b : Int) - (m : Int) = ((b - m : Nat) : Int) := by omega
  have p1 : 0 < m - a := by omega
  have p2 : 0 < b - m := by omega
  clear hd hL ha hX hY
  generalize m - a = i0 at *
  generalize b - m = j0 at *
  clear hm hb
  go_enter Try.func90, Try.ntmps90
  go_wp2_with fail
  go_loopw [10, 11] (fun ii jj wx => ∃ i j : Nat, ii = .int .i64 (i : Int) ∧ jj = .int .i64 (j : Int) ∧ 0 < i ∧ 0 < j ∧ i ≤ m ∧ m + j ≤ L ∧
      Hid (∃ P X' Y' Q, DAt wx g (P ++ (X' ++ (Y' ++ Q))) ∧ Only g w wx ∧ (P ++ (X' ++ (Y' ++ Q))).length = L ∧ P.length + X'.length = m ∧ X'.length = i ∧ Y'.length = j ∧ P ++ (Y' ++ (X' ++ Q)) = A ++ (Y ++ (X ++ Z))))
    (fun ii jj _ => (intOf ii).toNat + (intOf jj).toNat)
  case atStart =>
    obtain ⟨P, X', Y', Q, h1, h2, h3, h4, h5, h6, h7⟩ := H0.out
    exact ⟨i0, j0, rfl, rfl, p1, p2, by omega, by rw [← h3, ← h4]; simp only [List.length_append]; omega, H0⟩
  case round =>
    obtain ⟨i, j, rfl, rfl, hi, hj, him, hjL, hI⟩ := hrel
    clear H0 p1 p2 e1 e2
    rcases (by omega : i = j ∨ i > j ∨ i < j) with h | h | h
    · subst h
      have em : (m : Int) - (i : Int) = ((m - i : Nat) : Int) := by omega
      go_wp2_with fail
      obtain ⟨P, X', Y', Q, h1, h2, h3, h4, h5, h6, h7⟩ := hI.out
      go_at_call 91
      refine (c91 g cap (m - i) m i F P X' [] Y' Q wr L h1 h3 hs (by omega) h5 h6 (by simp; omega)).mono fun e w' ⟨he, h8, h9⟩ => ?_
      subst he
      clear em
      go_wp2
      go_end0
      exact ⟨rfl, h7 ▸ h8, h2.trans h9⟩
    · have em : (m : Int) - (i : Int) = ((m - i : Nat) : Int) := by omega
      have ei : (i : Int) - (j : Int) = ((i - j : Nat) : Int) := by omega
      go_wp2_with fail
      obtain ⟨P, X', Y', Q, h1, h2, h3, h4, h5, h6, h7⟩ := hI.out
      obtain ⟨X1, X2, rfl, l1, l2⟩ := split_at X' j (by omega)
      go_at_call 91
      refine (c91 g cap (m - i) m j F P X1 X2 Y' Q wr L (by simpa using h1) (by simpa using h3) hs (by omega) l1 h6 (by omega)).mono fun e w' ⟨he, h8, h9⟩ => ?_
      subst he
      have HN := Lib.hid (show ∃ P X' Y' Q, DAt w' g (P ++ (X' ++ (Y' ++ Q))) ∧ Only g w w' ∧ (P ++ (X' ++ (Y' ++ Q))).length = L ∧ P.length + X'.length = m ∧ X'.length = i - j ∧ Y'.length = j ∧ P ++ (Y' ++ (X' ++ Q)) = A ++ (Y ++ (X ++ Z)) from
        ⟨P ++ Y', X2, X1, Q, by simpa using h8, h2.trans h9, by rw [← h3]; simp only [List.length_append]; omega, by simp only [List.length_append]; omega, by omega, l1, by rw [← h7]; simp⟩)
      clear em h1 h2 h3 h4 h5 h6 h7 h8 h9 l1 l2 hI
      go_wp2
      go_roundw
      case rel => exact ⟨i - j, j, rfl, rfl, by omega, hj, by omega, hjL, HN⟩
      case measure => simp [intOf]; omega
    · have em : (m : Int) - (i : Int) = ((m - i : Nat) : Int) := by omega
      have ej : (j : Int) - (i : Int) = ((j - i : Nat) : Int) := by omega
      have ek : (m : Int) + (j : Int) - (i : Int) = ((m + j - i : Nat) : Int) := by omega
      go_wp2_with fail
      obtain ⟨P, X', Y', Q, h1, h2, h3, h4, h5, h6, h7⟩ := hI.out
      obtain ⟨Y1, Y2, rfl, l1, l2⟩ := split_at Y' (j - i) (by omega)
      go_at_call 91
      refine (c91 g cap (m - i) (m + j - i) i F P X' Y1 Y2 Q wr L (by simpa using h1) (by simpa using h3) hs (by omega) h5 (by omega) (by omega)).mono fun e w' ⟨he, h8, h9⟩ => ?_
      subst he
      have HN := Lib.hid (show ∃ P X' Y' Q, DAt w' g (P ++ (X' ++ (Y' ++ Q))) ∧ Only g w w' ∧ (P ++ (X' ++ (Y' ++ Q))).length = L ∧ P.length + X'.length = m ∧ X'.length = i ∧ Y'.length = j - i ∧ P ++ (Y' ++ (X' ++ Q)) = A ++ (Y ++ (X ++ Z)) from
        ⟨P, Y2, Y1, X' ++ Q, by simpa using h8, h2.trans h9, by rw [← h3]; simp only [List.length_append]; omega, by omega, by omega, l1, by rw [← h7]; simp⟩)
      clear em ek h1 h2 h3 h4 h5 h6 h7 h8 h9 l1 l2 hI
      go_wp2
      go_roundw
      case rel => exact ⟨i, j - i, rfl, rfl, hi, by omega, him, by omega, HN⟩
      case measure => simp [intOf]; omega
end Go.Proofs.Ytedkbjimofiphaa

namespace Go.Proofs.Ytedkbjimofiphaa
open Go.RowKit Fl
theorem CE.drewN {w : World} {q bx ga n c : Nat} {lv : Nat → Nat} (h : CE w bx ga n c lv) : CE (w.drewN q) bx ga n c lv := ⟨h.box, h.at_, h.u, h.lb, h.la⟩
theorem Only.drewN {b q : Nat} {w w' : World} (h : Only b w w') : Only b w (w'.drewN q) := ⟨h.os, h.tape, h.output, h.size, h.block⟩
theorem cmp3_lt {a b : Int} : decide (cmp3 a b < 0) = decide (a < b) := by
  unfold cmp3; split
  · simp [*]
  · split <;> simp <;> omega
/-- the order's environment: all stands but block g -/
structure SE (w : World) (g bx ga n c : Nat) (lv : Nat → Nat) : Prop where
  ce : CE w bx ga n c lv
  b : bx ≠ g
  a : ga ≠ g
theorem SE.only {w w' : World} {g bx ga n c : Nat} {lv : Nat → Nat} (h : SE w g bx ga n c lv) (ho : Only g w w') : SE w' g bx ga n c lv := ⟨h.ce.only ho h.b h.a, h.b, h.a⟩
theorem quiet57 {w : World} {q g bx ga n c : Nat} {lv : Nat → Nat} (h : SE w g bx ga n c lv) (i j : Nat) (hi : i < n) (hj : j < n) :
    Calls Try.prog 57 #[.int .i64 i, .int .i64 j, .pointer (some ⟨bx, 0, none⟩)] (w.drewN q) fun e w'' => e = .returned (.int .i64 (cmp3 (kf lv i) (kf lv j))) ∧ ∃ m, w'' = w.drewN m :=
  Calls.quiet_of (c57 h.ce.drewN i j hi hj)
/-- what stands while one is put into its place -/
def InsI (w0 w : World) (g : Nat) (key : Nat → Int) (A S Z : List Nat) (x j : Nat) : Prop :=
  ∃ S1 S2, S = S1 ++ S2 ∧ j = A.length + S1.length ∧ (∀ y ∈ S2, key x < key y) ∧ DAt w g (A ++ (S1 ++ (x :: (S2 ++ Z)))) ∧ Only g w0 w
theorem InsI.start {w0 w : World} {g : Nat} {key : Nat → Int} {A S Z : List Nat} {x : Nat} (h : DAt w g (A ++ (S ++ (x :: Z)))) (ho : Only g w0 w) : InsI w0 w g key A S Z x (A.length + S.length) :=
  ⟨S, [], by simp, rfl, (fun _ hm => by cases hm), by simpa using h, ho⟩
/-- the inner round: what is read, and what a swap makes -/
theorem InsI.step {w0 w : World} {g j : Nat} {key : Nat → Int} {A S Z : List Nat} {x : Nat} (h : InsI w0 w g key A S Z x j) (hj : A.length < j) : ∃ y, y ∈ S ∧ w.cell? ⟨g, j, none⟩ = some (.int .i64 (x : Int)) ∧ w.cell? ⟨g, j - 1, none⟩ = some (.int .i64 (y : Int)) ∧
    w.frozen? ⟨g, j, none⟩ = false ∧ w.frozen? ⟨g, j - 1, none⟩ = false ∧ (key x < key y → ∀ q, InsI w0 (((w.drewN q).setCell ⟨g, j, none⟩ (.int .i64 (y : Int))).setCell ⟨g, j - 1, none⟩ (.int .i64 (x : Int))).drew g key A S Z x (j - 1)) ∧
    (¬ key x < key y → Sd key S → ∀ q, DAt (w.drewN q) g (A ++ (mg key S [x] ++ Z)) ∧ Only g w0 (w.drewN q)) := by
  obtain ⟨S1, S2, rfl, rfl, h1, h2, h3⟩ := h
  obtain ⟨y, S1', rfl, l1⟩ := snoc_of_len (l := S1) (n := S1.length - 1) (by omega)
  have e : A ++ (S1' ++ [y] ++ (x :: (S2 ++ Z))) = (A ++ S1') ++ y :: x :: (S2 ++ Z) := by simp
  rw [e] at h2
  have lj : A.length + (S1' ++ [y]).length = (A ++ S1').length + 1 := by simp; omega
  rw [lj, Nat.add_sub_cancel]
  have len : ((A ++ S1') ++ y :: x :: (S2 ++ Z)).length = (A ++ S1').length + 2 + (S2 ++ Z).length := by simp only [List.length_append, List.length_cons]; omega
  refine ⟨y, by simp, h2.get (get_next rfl), h2.get (get_mid rfl), h2.fro (by omega), h2.fro (by omega), fun hk q => ?_, fun hk hs q => ?_⟩
  · refine ⟨S1', y :: S2, by simp, by simp, fun z hz => ?_, ?_, ((h3.drewN.setCell _).setCell _).drew⟩
    · rcases List.mem_cons.1 hz with rfl | hz
      · exact hk
      · exact h1 z hz
    · have T := (h2.drew (q := q)).two (j := (A ++ S1').length + 1) (k := (A ++ S1').length) y x
      rw [swap_next rfl rfl] at T
      have e2 : A ++ (S1' ++ (x :: (y :: S2 ++ Z))) = (A ++ S1') ++ x :: y :: (S2 ++ Z) := by simp
      rw [e2]
      exact T.drew1
  · rw [mg_one key (fun z hz => ?_) h1]
    · have e2 : A ++ (S1' ++ [y] ++ x :: S2 ++ Z) = (A ++ S1') ++ y :: x :: (S2 ++ Z) := by simp
      rw [e2]
      exact ⟨h2.drew, h3.drewN⟩
    · have s1 := Sd.append_left key hs
      rcases List.mem_append.1 hz with hz | hz
      · have := lasts key s1 z hz; omega
      · rw [List.mem_singleton.1 hz]; omega
theorem InsI.stop {w0 w : World} {g j : Nat} {key : Nat → Int} {A S Z : List Nat} {x : Nat} (h : InsI w0 w g key A S Z x j) (hj : ¬ A.length < j) (q : Nat) : DAt (w.drewN q) g (A ++ (mg key S [x] ++ Z)) ∧ Only g w0 (w.drewN q) := by
  obtain ⟨S1, S2, rfl, rfl, h1, h2, h3⟩ := h
  have : S1 = [] := List.length_eq_zero_iff.1 (by omega)
  subst this
  rw [mg_one key (fun z hz => by cases hz) h1]
  exact ⟨by have := h2.drew (q := q); simpa using this, h3.drewN⟩
/-- what stands while so many are in order -/
def InsO (w0 w : World) (g : Nat) (key : Nat → Int) (A X Z : List Nat) (p : Nat) : Prop := DAt w g (A ++ (stab key (X.take p) ++ (X.drop p ++ Z))) ∧ Only g w0 w
set_option maxRecDepth 100000 in
set_option maxHeartbeats 1000000 in
theorem c88 (g cap bx ga n c a b : Nat) (lv : Nat → Nat) (A X Z : List Nat) (w : World) (L : Nat) (hE : SE w g bx ga n c lv) (hd : DAt w g (A ++ (X ++ Z))) (hn : ∀ x ∈ X, x < n) (hL : (A ++ (X ++ Z)).length = L)
    (hs : L ≤ 1099511627776) (ha : A.length = a) (hb : b = a + X.length) :
    Calls Try.prog 88 #[.slice (some ⟨g, 0, none⟩) L cap, .int .i64 (a : Int), .int .i64 (b : Int), .func (.func 57) #[] #[.pointer (some ⟨bx, 0, none⟩)]] w
      fun e w' => e = .returned (.tuple #[]) ∧ DAt w' g (A ++ (stab (kf lv) X ++ Z)) ∧ Only g w w' := by
  have hbL : b ≤ L := by rw [← hL]; simp only [List.length_append]; omega
  have hab : a ≤ b := by omega
  have HO := Lib.hid (show InsO w w g (kf lv) A X Z 1 by
    refine ⟨?_, Only.refl _ _⟩
    cases X with
    | nil => exact hd
    | cons x X => rw [show (x :: X).take 1 = [x] from rfl, stab_single]; exact hd)
  have HE := Lib.hid hE
  have HN := Lib.hid hn
  have HA := Lib.hid (And.intro ha hL)
  have HB := Lib.hid hb
  clear hd hE hn ha hL hb
  go_enter Try.func88, Try.ntmps88
  go_wp2_with fail
  go_loopw [8] (fun ii wx => ∃ p : Nat, ii = .int .i64 ((a : Int) + (p : Int)) ∧ 0 < p ∧ p ≤ 1099511627776 ∧ Hid (InsO w wx g (kf lv) A X Z p)) (fun ii _ => b + 1 - (intOf ii).toNat)
  case atStart => exact ⟨1, by go_num, by omega, by omega, HO⟩
  case round =>
    obtain ⟨p, rfl, hp, hp2, hI⟩ := hrel
    by_cases hlt : a + p < b
    · have hlti : (a : Int) + (p : Int) < (b : Int) := by omega
      have hb := HB.out
      have HX := Lib.hid (show ∃ x, X.take (p + 1) = X.take p ++ [x] ∧ X.drop p = x :: X.drop (p + 1) from ⟨X[p], List.take_succ_eq_append_getElem (by omega), List.drop_eq_getElem_cons (by omega)⟩)
      have hlx : p < X.length := by omega
      have HLX := Lib.hid hlx
      clear hlx hb
      go_wp2_with fail
      obtain ⟨x, hx1, hx2⟩ := HX.out
      have hxm : x ∈ X := by rw [← List.take_append_drop p X, hx2]; simp
      have hxn := HN.out x hxm
      have IS := Lib.hid (show InsI w wr g (kf lv) A (stab (kf lv) (X.take p)) (X.drop (p + 1) ++ Z) x (a + p) by
        have h1 := hI.out.1
        rw [hx2] at h1
        have := InsI.start (key := kf lv) (S := stab (kf lv) (X.take p)) h1 hI.out.2
        rwa [stab_length, List.length_take, HA.out.1, Nat.min_eq_left (Nat.le_of_lt HLX.out)] at this)
      have NX := Lib.hid (show ∀ wq, DAt wq g (A ++ (mg (kf lv) (stab (kf lv) (X.take p)) [x] ++ (X.drop (p + 1) ++ Z))) ∧ Only g w wq → InsO w wq g (kf lv) A X Z (p + 1) from fun wq ⟨h1, h2⟩ => by
        refine ⟨?_, h2⟩
        rw [hx1, stab_snoc]
        exact h1)
      have HM := Lib.hid (show ∀ y ∈ stab (kf lv) (X.take p), y < n from fun y hy => HN.out y (List.mem_of_mem_take ((stab_perm (kf lv) _).mem_iff.1 hy)))
      have HS := Lib.hid (stab_sd (kf lv) (X.take p))
      clear hx1 hx2 hxm HX
      generalize stab (kf lv) (X.take p) = S at *
      go_loopw [9] (fun jj wx => ∃ j : Nat, jj = .int .i64 (j : Int) ∧ a ≤ j ∧ j ≤ a + p ∧ Hid (InsI w wx g (kf lv) A S (X.drop (p + 1) ++ Z) x j)) (fun jj _ => (intOf jj).toNat)
      case atStart => exact ⟨a + p, rfl, by omega, Nat.le_refl _, IS⟩
      case round =>
        obtain ⟨j, rfl, haj, hjp, hJ⟩ := hrel
        have jl : (j : Int) < (L : Int) := by omega
        by_cases hja : a < j
        · obtain ⟨y, hy, cx, cy, fx, fy, st, ex⟩ := hJ.out.step (by have := HA.out.1; omega)
          have hyn := HM.out y hy
          have ST := Lib.hid st
          have EX := Lib.hid (fun h => ex h HS.out)
          have SEr := Lib.hid (HE.out.only (show Only g w wr by obtain ⟨_, _, _, _, _, _, h⟩ := hJ.out; exact h))
          have KX := Lib.hid (show ∀ u v : Nat, kf lv u < kf lv v ∨ ¬ kf lv u < kf lv v from fun u v => by omega)
          have CL := Lib.hid (fun q => quiet57 (q := q) SEr.out x y hxn hyn)
          clear st ex hy
          generalize hkx : kf lv x = kx at *
          generalize hky : kf lv y = ky at *
          have HK := Lib.hid (And.intro hkx hky)
          clear hkx hky
          have c3 := @cmp3_lt kx ky
          go_wp2_with fail
          go_quiet ((go_at_call 57; exact CL.out _))
          go_wp2_with fail
          · -- the swap
            have hl : kx < ky := by assumption
            go_region
            go_wp2
            go_roundw
            case rel => exact ⟨j - 1, by go_num, by omega, by omega, ST.out hl nq⟩
            case measure => simp [intOf]; omega
          · -- it stands
            have hl : ¬ kx < ky := by omega
            go_roundw
            case rel => exact ⟨p + 1, by go_num, by omega, by omega, NX.out _ (EX.out (by omega) nq)⟩
            case measure => simp [intOf]; omega
        · have ex := hJ.out.stop (by have := HA.out.1; omega)
          have EX := Lib.hid ex
          clear ex
          go_wp2_with fail
          go_quiet (fail)
          go_wp2_with fail
          go_roundw
          case rel => exact ⟨p + 1, by go_num, by omega, by omega, NX.out _ (EX.out nq)⟩
          case measure => simp [intOf]; omega
    · have hge : ¬ (a : Int) + (p : Int) < (b : Int) := by omega
      have hb := HB.out
      have H1 := hI.out
      unfold InsO at H1
      rw [List.take_of_length_le (by omega), List.drop_of_length_le (by omega), List.nil_append] at H1
      have H2 := Lib.hid H1
      clear H1 hI HO hb
      go_wp2_with fail
      go_end0
      exact ⟨rfl, H2.out⟩
end Go.Proofs.Ytedkbjimofiphaa

namespace Go.Proofs.Ytedkbjimofiphaa
open Go.RowKit Fl
section
variable {key : Nat → Int}
theorem Sd.get {l : List Nat} {t s x y : Nat} (h : Sd key l) (hts : t ≤ s) (hx : l[t]? = some x) (hy : l[s]? = some y) : key x ≤ key y := by
  obtain ⟨b1, e1⟩ := List.getElem?_eq_some_iff.1 hx
  obtain ⟨b2, e2⟩ := List.getElem?_eq_some_iff.1 hy
  rcases Nat.lt_or_eq_of_le hts with h1 | rfl
  · have := List.pairwise_iff_getElem.1 h t s b1 b2 h1
    rwa [e1, e2] at this
  · rw [e1] at e2; rw [e2]; exact Int.le_refl _
/-- a search by halves: below lo yes, from hi on no -/
def BS (l : List Nat) (P : Nat → Prop) (lo hi : Nat) : Prop := ∀ t y, l[t]? = some y → (t < lo → P y) ∧ (hi ≤ t → ¬ P y)
theorem BS.start (l : List Nat) (P : Nat → Prop) : BS l P 0 l.length := fun t y h => ⟨fun h => absurd h (Nat.not_lt_zero _), fun h2 => by
  have := (List.getElem?_eq_some_iff.1 h).1; omega⟩
theorem BS.up {l : List Nat} {P : Nat → Prop} {lo hi h y : Nat} (hb : BS l P lo hi) (hy : l[h]? = some y) (hP : P y) (hs : Sd key l) (hm : ∀ x y, key x ≤ key y → P y → P x) : BS l P (h + 1) hi :=
  fun t z hz => ⟨fun ht => hm z y (hs.get (by omega) hz hy) hP, (hb t z hz).2⟩
theorem BS.down {l : List Nat} {P : Nat → Prop} {lo hi h y : Nat} (hb : BS l P lo hi) (hy : l[h]? = some y) (hP : ¬ P y) (hs : Sd key l) (hm : ∀ x y, key x ≤ key y → P y → P x) : BS l P lo h :=
  fun t z hz => ⟨(hb t z hz).1, fun ht hz2 => hP (hm y z (hs.get ht hy hz) hz2)⟩
theorem BS.split {l : List Nat} {P : Nat → Prop} {lo : Nat} (hb : BS l P lo lo) (hl : lo ≤ l.length) : ∃ l1 l2, l = l1 ++ l2 ∧ l1.length = lo ∧ (∀ y ∈ l1, P y) ∧ ∀ y ∈ l2, ¬ P y := by
  obtain ⟨a, b, rfl, h1, h2⟩ := split_at l lo hl
  refine ⟨a, b, rfl, h1, fun y hy => ?_, fun y hy => ?_⟩
  · obtain ⟨i, hi, e⟩ := List.mem_iff_getElem.1 hy
    exact (hb i y (by rw [List.getElem?_append_left hi, List.getElem?_eq_getElem hi, e])).1 (by omega)
  · obtain ⟨i, hi, e⟩ := List.mem_iff_getElem.1 hy
    exact (hb (lo + i) y (by rw [List.getElem?_append_right (by omega), h1, Nat.add_sub_cancel_left, List.getElem?_eq_getElem hi, e])).2 (by omega)
end
theorem get_in {A X Z : List Nat} {t y i : Nat} (h : X[t]? = some y) (hi : i = A.length + t) : (A ++ (X ++ Z))[i]? = some y := by
  subst hi
  have := (List.getElem?_eq_some_iff.1 h).1
  rw [List.getElem?_append_right (by omega), Nat.add_sub_cancel_left, List.getElem?_append_left this, h]
theorem half (i j : Nat) : ((i : Int) + (j : Int)) / 2 = (((i + j) / 2 : Nat) : Int) := by omega
set_option maxRecDepth 100000 in
set_option maxHeartbeats 1000000 in
theorem c89a (g cap bx ga n c a m b x : Nat) (lv : Nat → Nat) (A R Z : List Nat) (w : World) (L : Nat) (hE : SE w g bx ga n c lv) (hd : DAt w g (A ++ (x :: (R ++ Z)))) (hx : x < n) (hn : ∀ x ∈ R, x < n) (hL : (A ++ (x :: (R ++ Z))).length = L)
    (hs : L ≤ 1099511627776) (ha : A.length = a) (hm : m = a + 1) (hb : b = m + R.length) (hS : Sd (kf lv) R) :
    Calls Try.prog 89 #[.slice (some ⟨g, 0, none⟩) L cap, .int .i64 (a : Int), .int .i64 (m : Int), .int .i64 (b : Int), .func (.func 57) #[] #[.pointer (some ⟨bx, 0, none⟩)]] w
      fun e w' => e = .returned (.tuple #[]) ∧ DAt w' g (A ++ (mg (kf lv) [x] R ++ Z)) ∧ Only g w w' := by
  have hbL : b ≤ L := by rw [← hL]; simp only [List.length_append, List.length_cons]; omega
  have hmb : m ≤ b := by omega
  have e1 : (m : Int) - (a : Int) = 1 := by omega
  have HE := Lib.hid hE
  have HN := Lib.hid hn
  have HD := Lib.hid hd
  have HB := Lib.hid (And.intro ha (And.intro hm hb))
  have HS := Lib.hid hS
  have HL := Lib.hid hL
  have HX := Lib.hid (BS.start R (fun y => kf lv y < kf lv x))
  have al : a < L := by omega
  clear hE hn hd ha hm hb hS hL
  go_enter Try.func89, Try.ntmps89
  go_upto_region 3 with fail
  go_loopw [10, 11] (fun ii jj wx => ∃ i j : Nat, ii = .int .i64 (i : Int) ∧ jj = .int .i64 (j : Int) ∧ m ≤ i ∧ i ≤ j ∧ j ≤ b ∧ Hid (BS R (fun y => kf lv y < kf lv x) (i - m) (j - m)) ∧ Hid (DAt wx g (A ++ (x :: (R ++ Z))) ∧ Only g w wx)) (fun ii jj _ => (intOf jj).toNat - (intOf ii).toNat)
  case atStart =>
    obtain ⟨h1, h2, h3⟩ := HB.out
    exact ⟨m, b, rfl, rfl, Nat.le_refl _, hmb, Nat.le_refl _, Lib.hid (by rw [Nat.sub_self, show b - m = R.length by omega]; exact HX.out), Lib.hid ⟨HD.out, Only.refl _ _⟩⟩
  case round =>
    obtain ⟨i, j, rfl, rfl, hmi, hij, hjb, hI, hq⟩ := hrel
    by_cases hlt : i < j
    · have hh := half i j
      obtain ⟨h, eh⟩ : ∃ h, h = (i + j) / 2 := ⟨_, rfl⟩
      rw [← eh] at hh
      have hih : i ≤ h := by omega
      have hhj : h < j := by omega
      have hlen : h - m < R.length := by have := HB.out; omega
      obtain ⟨y, ey⟩ : ∃ y, R[h - m]? = some y := ⟨_, List.getElem?_eq_getElem hlen⟩
      have cx := hq.out.1.get (get_mid (y := x) (m := a) (by have := HB.out; omega))
      have cy := hq.out.1.get (j := h) (x := y) (by
        obtain ⟨h1, h2, h3⟩ := HB.out
        rw [show A ++ (x :: (R ++ Z)) = (A ++ [x]) ++ (R ++ Z) by simp]
        exact get_in ey (by simp; omega))
      have hyn := HN.out y (List.mem_of_getElem? ey)
      have hhL : (h : Int) < (L : Int) := by omega
      have haL : (a : Int) < (L : Int) := by omega
      have CL := Lib.hid (fun r => quiet57 (q := r) (HE.out.only hq.out.2) y x hyn hx)
      have UP := Lib.hid (fun hP => hI.out.up (P := fun y => kf lv y < kf lv x) ey hP HS.out (fun _ _ h1 h2 => by omega))
      have DN := Lib.hid (fun hP => hI.out.down (P := fun y => kf lv y < kf lv x) ey hP HS.out (fun _ _ h1 h2 => by omega))
      have EH := Lib.hid eh
      have c3 := @cmp3_lt (kf lv y) (kf lv x)
      clear eh ey hlen
      generalize kf lv y = ky at *
      generalize kf lv x = kx at *
      go_upto_region 5 with fail
      go_quiet ((go_at_call 57; exact CL.out _))
      go_wp2_with fail
      · have hl : ky < kx := by assumption
        go_roundw
        case rel => exact ⟨h + 1, j, by go_num, rfl, by omega, by omega, hjb, by rw [show h + 1 - m = h - m + 1 by omega]; exact Lib.hid (UP.out hl), Lib.hid ⟨hq.out.1.drew, hq.out.2.drewN⟩⟩
        case measure => simp [intOf]; omega
      · have hl : ¬ ky < kx := by omega
        go_roundw
        case rel => exact ⟨i, h, rfl, rfl, hmi, hih, by omega, Lib.hid (DN.out hl), Lib.hid ⟨hq.out.1.drew, hq.out.2.drewN⟩⟩
        case measure => simp [intOf]; omega
    · have hij : i = j := by omega
      subst hij
      obtain ⟨R1, R2, hR, l1, p1, p2⟩ := hI.out.split (by have := HB.out; omega)
      subst hR
      have HG := Lib.hid (mg_first (kf lv) p1 (fun z hz => by have := p2 z hz; omega))
      have EL := Lib.hid l1
      clear hI l1 p1 p2
      have H0 := Lib.hid (show DAt wr g (A ++ (R1.take 0 ++ (x :: (R1.drop 0 ++ (R2 ++ Z))))) ∧ Only g w wr from ⟨by simpa using hq.out.1, hq.out.2⟩)
      clear hq
      go_wp2_with fail
      go_loopw [13] (fun kk wx => ∃ k : Nat, kk = .int .i64 (k : Int) ∧ a ≤ k ∧ k < i ∧ Hid (DAt wx g (A ++ (R1.take (k - a) ++ (x :: (R1.drop (k - a) ++ (R2 ++ Z))))) ∧ Only g w wx)) (fun kk _ => i - (intOf kk).toNat)
      case atStart => exact ⟨a, rfl, Nat.le_refl _, by have := HB.out; omega, by rw [Nat.sub_self]; exact H0⟩
      case round =>
        obtain ⟨k, rfl, hak, hki, hK⟩ := hrel
        by_cases hlt : k + 1 < i
        · have hlti : (k : Int) < (i : Int) - 1 := by omega
          have hkL : (k : Int) + 1 < (L : Int) := by omega
          obtain ⟨y, e1, e2⟩ : ∃ y, R1.drop (k - a) = y :: R1.drop (k - a + 1) ∧ R1.take (k - a + 1) = R1.take (k - a) ++ [y] :=
            ⟨R1[k - a]'(by have := EL.out; have := HB.out; omega), List.drop_eq_getElem_cons _, List.take_succ_eq_append_getElem _⟩
          have D := hK.out.1
          rw [e1, ← List.append_assoc] at D
          have lT : (A ++ R1.take (k - a)).length = k := by rw [List.length_append, List.length_take]; have := EL.out; have := HB.out; omega
          have lD : k + 1 < ((A ++ R1.take (k - a)) ++ x :: (y :: R1.drop (k - a + 1) ++ (R2 ++ Z))).length := by
            simp only [List.length_append, List.length_cons] at lT ⊢; omega
          have cx := D.get (get_mid (y := x) (m := k) lT.symm)
          have cy := D.get (get_next (y := x) (x := y) (k := k + 1) (by rw [lT]))
          have fx := D.fro (j := k) (by omega)
          have fy := D.fro (j := k + 1) lD
          have NX := Lib.hid (show ∀ wq, wq = ((wr.setCell ⟨g, k, none⟩ (.int .i64 (y : Int))).setCell ⟨g, k + 1, none⟩ (.int .i64 (x : Int))).drew → DAt wq g (A ++ (R1.take (k + 1 - a) ++ (x :: (R1.drop (k + 1 - a) ++ (R2 ++ Z))))) ∧ Only g w wq from fun wq e => by
            subst e
            refine ⟨?_, (two_only hK.out.2 _ _).drew⟩
            have T := D.two (j := k) (k := k + 1) y x
            rw [show (A ++ R1.take (k - a)) ++ x :: (y :: R1.drop (k - a + 1) ++ (R2 ++ Z)) = (A ++ R1.take (k - a)) ++ x :: y :: (R1.drop (k - a + 1) ++ (R2 ++ Z)) by simp,
              swap_next2 lT.symm (by rw [lT])] at T
            rw [show k + 1 - a = k - a + 1 by omega, e2, show A ++ (R1.take (k - a) ++ [y] ++ (x :: (R1.drop (k - a + 1) ++ (R2 ++ Z)))) = (A ++ R1.take (k - a)) ++ y :: x :: (R1.drop (k - a + 1) ++ (R2 ++ Z)) by simp]
            exact T.drew1)
          clear e1 e2 D lT lD
          go_wp2_with fail
          go_region
          go_wp2
          go_roundw
          case rel => exact ⟨k + 1, by go_num, by omega, hlt, Lib.hid (NX.out _ rfl)⟩
          case measure => simp [intOf]; omega
        · have hge : ¬ (k : Int) < (i : Int) - 1 := by omega
          have FD := Lib.hid (show DAt wr g (A ++ (mg (kf lv) [x] (R1 ++ R2) ++ Z)) ∧ Only g w wr by
            have T := hK.out
            have := EL.out
            have := HB.out
            rw [List.take_of_length_le (by omega), List.drop_of_length_le (by omega)] at T
            rw [HG.out]
            exact ⟨by simpa using T.1, T.2⟩)
          clear hK H0
          go_wp2_with fail
          refine bodyPost_ret (v := .tuple #[]) (results_none rfl _ _ _) rfl ?_
          exact ⟨rfl, FD.out⟩
set_option maxRecDepth 100000 in
set_option maxHeartbeats 1000000 in
theorem c89b (g cap bx ga n c a m b x : Nat) (lv : Nat → Nat) (A S Z : List Nat) (w : World) (L : Nat) (hE : SE w g bx ga n c lv) (hd : DAt w g (A ++ (S ++ (x :: Z)))) (hx : x < n) (hn : ∀ x ∈ S, x < n) (hL : (A ++ (S ++ (x :: Z))).length = L)
    (hs : L ≤ 1099511627776) (ha : A.length = a) (hm : m = a + S.length) (hb : b = m + 1) (h2 : 2 ≤ S.length) (hS : Sd (kf lv) S) :
    Calls Try.prog 89 #[.slice (some ⟨g, 0, none⟩) L cap, .int .i64 (a : Int), .int .i64 (m : Int), .int .i64 (b : Int), .func (.func 57) #[] #[.pointer (some ⟨bx, 0, none⟩)]] w
      fun e w' => e = .returned (.tuple #[]) ∧ DAt w' g (A ++ (mg (kf lv) S [x] ++ Z)) ∧ Only g w w' := by
  have hbL : b ≤ L := by rw [← hL]; simp only [List.length_append, List.length_cons]; omega
  have hmb : m < L := by omega
  have ham : a ≤ m := by omega
  have e1 : ¬ (m : Int) - (a : Int) = 1 := by omega
  have e2 : (b : Int) - (m : Int) = 1 := by omega
  have HE := Lib.hid hE
  have HN := Lib.hid hn
  have HD := Lib.hid hd
  have HB := Lib.hid (And.intro ha (And.intro hm hb))
  have HS := Lib.hid hS
  have HX := Lib.hid (BS.start S (fun y => kf lv y ≤ kf lv x))
  clear hE hn hd ha hm hb hS hL h2
  go_enter Try.func89, Try.ntmps89
  go_upto_region 15 with fail
  go_loopw [14, 15] (fun ii jj wx => ∃ i j : Nat, ii = .int .i64 (i : Int) ∧ jj = .int .i64 (j : Int) ∧ a ≤ i ∧ i ≤ j ∧ j ≤ m ∧ Hid (BS S (fun y => kf lv y ≤ kf lv x) (i - a) (j - a)) ∧ Hid (DAt wx g (A ++ (S ++ (x :: Z))) ∧ Only g w wx)) (fun ii jj _ => (intOf jj).toNat - (intOf ii).toNat)
  case atStart =>
    obtain ⟨h1, h2, h3⟩ := HB.out
    exact ⟨a, m, rfl, rfl, Nat.le_refl _, ham, Nat.le_refl _, Lib.hid (by rw [Nat.sub_self, show m - a = S.length by omega]; exact HX.out), Lib.hid ⟨HD.out, Only.refl _ _⟩⟩
  case round =>
    obtain ⟨i, j, rfl, rfl, hmi, hij, hjb, hI, hq⟩ := hrel
    by_cases hlt : i < j
    · have hh := half i j
      obtain ⟨h, eh⟩ : ∃ h, h = (i + j) / 2 := ⟨_, rfl⟩
      rw [← eh] at hh
      have hih : i ≤ h := by omega
      have hhj : h < j := by omega
      have hlen : h - a < S.length := by have := HB.out; omega
      obtain ⟨y, ey⟩ : ∃ y, S[h - a]? = some y := ⟨_, List.getElem?_eq_getElem hlen⟩
      have cx := hq.out.1.get (j := m) (x := x) (by
        obtain ⟨h1, h2, h3⟩ := HB.out
        rw [← List.append_assoc]
        exact get_mid (by simp; omega))
      have cy := hq.out.1.get (j := h) (x := y) (get_in ey (by have := HB.out; omega))
      have hyn := HN.out y (List.mem_of_getElem? ey)
      have hhL : (h : Int) < (L : Int) := by omega
      have haL : (m : Int) < (L : Int) := by omega
      have CL := Lib.hid (fun r => quiet57 (q := r) (HE.out.only hq.out.2) x y hx hyn)
      have UP := Lib.hid (fun hP => hI.out.up (P := fun y => kf lv y ≤ kf lv x) ey hP HS.out (fun _ _ h1 h2 => by omega))
      have DN := Lib.hid (fun hP => hI.out.down (P := fun y => kf lv y ≤ kf lv x) ey hP HS.out (fun _ _ h1 h2 => by omega))
      have EH := Lib.hid eh
      have c3 := @cmp3_lt (kf lv x) (kf lv y)
      clear eh ey hlen
      generalize kf lv y = ky at *
      generalize kf lv x = kx at *
      go_upto_region 17 with fail
      go_quiet ((go_at_call 57; exact CL.out _))
      go_wp2_with fail
      · have hl : ¬ kx < ky := by
          have h : (!decide (kx < ky)) = true := by assumption
          simpa using h
        go_roundw
        case rel => exact ⟨h + 1, j, by go_num, rfl, by omega, by omega, hjb, by rw [show h + 1 - a = h - a + 1 by omega]; exact Lib.hid (UP.out (by omega)), Lib.hid ⟨hq.out.1.drew, hq.out.2.drewN⟩⟩
        case measure => simp [intOf]; omega
      · have hl : kx < ky := by
          have h : (!decide (kx < ky)) = false := by assumption
          simpa using h
        go_roundw
        case rel => exact ⟨i, h, rfl, rfl, hmi, hih, by omega, Lib.hid (DN.out (by omega)), Lib.hid ⟨hq.out.1.drew, hq.out.2.drewN⟩⟩
        case measure => simp [intOf]; omega
    · have hij : i = j := by omega
      subst hij
      obtain ⟨S1, S2, hR, l1, p1, p2⟩ := hI.out.split (by have := HB.out; omega)
      subst hR
      have p2 : ∀ y ∈ S2, kf lv x < kf lv y := fun y hy => by have := p2 y hy; omega
      have HG := Lib.hid (And.intro (mg_one (kf lv) p1 p2) (And.intro (mg_one (kf lv) (s1 := []) (s2 := S2) (x := x) (fun _ h => by cases h) p2) p2))
      have EL := Lib.hid l1
      have H0 := Lib.hid (show InsI w wr g (kf lv) (A ++ S1) S2 Z x m from by
        have := InsI.start (w0 := w) (key := kf lv) (A := A ++ S1) (S := S2) (x := x) (Z := Z) (by simpa using hq.out.1) hq.out.2
        rwa [show (A ++ S1).length + S2.length = m by have := HB.out; simp only [List.length_append] at *; omega] at this)
      have LA := Lib.hid (show (A ++ S1).length = i by have := HB.out; rw [List.length_append]; omega)
      clear hI l1 p1 p2 hq
      go_wp2_with fail
      go_loopw [17] (fun kk wx => ∃ k : Nat, kk = .int .i64 (k : Int) ∧ i ≤ k ∧ k ≤ m ∧ Hid (InsI w wx g (kf lv) (A ++ S1) S2 Z x k)) (fun kk _ => (intOf kk).toNat)
      case atStart => exact ⟨m, rfl, hjb, Nat.le_refl _, H0⟩
      case round =>
        obtain ⟨k, rfl, hik, hkm, hK⟩ := hrel
        by_cases hlt : i < k
        · have hlti : (i : Int) < (k : Int) := by omega
          have hkL : (k : Int) < (L : Int) := by omega
          obtain ⟨y, hy, cx, cy, fx, fy, st, -⟩ := hK.out.step (by have := LA.out; omega)
          have ST := Lib.hid (st (HG.out.2.2 y hy) 0)
          clear st hy
          go_wp2_with fail
          go_region
          go_wp2
          go_roundw
          case rel => exact ⟨k - 1, by go_num, by omega, by omega, ST⟩
          case measure => simp [intOf]; omega
        · have hge : ¬ (i : Int) < (k : Int) := by omega
          have FD := Lib.hid (show DAt wr g (A ++ (mg (kf lv) (S1 ++ S2) [x] ++ Z)) ∧ Only g w wr by
            have T := hK.out.stop (by have := LA.out; omega) 0
            rw [show mg (kf lv) S2 [x] = x :: S2 from HG.out.2.1] at T
            have T1 : DAt wr g ((A ++ S1) ++ (x :: S2 ++ Z)) := T.1
            rw [HG.out.1]
            exact ⟨by simpa using T1, T.2⟩)
          clear hK H0
          go_wp2_with fail
          refine bodyPost_ret (v := .tuple #[]) (results_none rfl _ _ _) rfl ?_
          exact ⟨rfl, FD.out⟩
end Go.Proofs.Ytedkbjimofiphaa
