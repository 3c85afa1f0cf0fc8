/- galleyref14.Round of numbers (printed by gen_cbt.py). Round by a word that says nothing. -/
import Derived.Test.YthohhepoddnbnaaGreatDoorCbP
import Derived.Test.YthohhepoddnbnaaGreatDoorMgCbQ
import Derived.Test.YthohhepoddnbnaaGreatDoorMgCbL
namespace Go.Proofs.YthohhepoddnbnaaGreatDoor
open Go.RowKit Fl

/-- rows of numbers in memory -/
structure RA (w wx : World) (rs : List (Nat × Nat)) : Prop where
  rows : ∀ p ∈ rs, URow wx p.1 0 (dg p.2) ∧ p.1 < wx.heap.size
  l : Below w.heap.size w wx
theorem RA.below {w wx wy : World} {rs : List (Nat × Nat)} (h : RA w wx rs) (k : Below wx.heap.size wx wy) : RA w wy rs :=
  ⟨fun p hp => ⟨(h.rows p hp).1.below k (h.rows p hp).2, Nat.lt_of_lt_of_le (h.rows p hp).2 k.size⟩, h.l.trans (k.mono h.l.size)⟩
theorem RA.add {w wx : World} {rs : List (Nat × Nat)} (h : RA w wx rs) (m : Nat) : RA w ((wx.alloc (.cells Tryz.zeroCells80 80)).setCells wx.heap.size 0 (UL m)) ((wx.heap.size, m) :: rs) := by
  refine ⟨fun p hp => ?_, below_setCells (h.l.trans ((below_new wx _).mono h.l.size)) h.l.size 0 (UL m)⟩
  rcases List.mem_cons.1 hp with rfl | hp
  · exact ⟨urow_laid (row_zero wx), by rw [size_setCells]; exact size_new _ _⟩
  · obtain ⟨h1, h2⟩ := h.rows p hp
    refine ⟨fun j hj => ⟨(World.cell?_setCells_out _ _ _ _ _ (fun e _ => absurd e (Nat.ne_of_lt h2))).trans ((h1.below (below_new wx _) h2) j hj).1, ?_⟩, by rw [size_setCells]; exact Nat.lt_trans h2 (size_new _ _)⟩
    rw [World.frozen?_setCells]; exact ((h1.below (below_new wx _) h2) j hj).2
theorem RA.zero {w wx : World} {rs : List (Nat × Nat)} (h : RA w wx rs) : RA w (wx.alloc (.cells Tryz.zeroCells80 80)) ((wx.heap.size, 0) :: rs) := by
  refine ⟨fun p hp => ?_, h.l.trans ((below_new wx _).mono h.l.size)⟩
  rcases List.mem_cons.1 hp with rfl | hp
  · exact ⟨row_zero wx, size_new _ _⟩
  · exact ⟨(h.rows p hp).1.below (below_new wx _) (h.rows p hp).2, Nat.lt_trans (h.rows p hp).2 (size_new _ _)⟩
theorem RA.at {w wx : World} {rs : List (Nat × Nat)} {c n : Nat} (h : RA w wx rs) (hm : (c, n) ∈ rs) : wx.rangeAt c 0 (UL n) := (h.rows _ hm).1.range
theorem RA.start (w : World) : RA w w [] := ⟨(fun _ h => nomatch h), Below.refl _ _⟩
/-- what Round's calls answer of two numbers -/
structure RC2 (x y a b r : Nat) (neg : Bool) : Prop where
  c3 : ∀ w, Calls Tryz.prog 35 #[.float .f64 x, .int .i64 0] w fun e w' => e = .returned (.bool false) ∧ w = w'
  c4 : ∀ w, Calls Tryz.prog 35 #[.float .f64 y, .int .i64 0] w fun e w' => e = .returned (.bool false) ∧ w = w'
  ua : ∀ w, Calls Tryz.prog 48 #[.float .f64 x] w fun e w' => e = .returned (.agg (UL a).toArray) ∧ Below w.heap.size w w'
  ub : ∀ w, Calls Tryz.prog 48 #[.float .f64 y] w fun e w' => e = .returned (.agg (UL b).toArray) ∧ Below w.heap.size w w'
  rest : ∀ w, Calls Tryz.prog 50 #[.agg (UL a).toArray, .agg (UL b).toArray] w fun e w' => e = .returned (.agg (UL r).toArray) ∧ Below w.heap.size w w'
  cn : ∀ w, Calls Tryz.prog 49 #[.float .f64 x] w fun e w' => e = .returned (.bool neg) ∧ w = w'
  cc : ∀ w, Calls Tryz.prog 51 #[.agg (UL r).toArray, .agg (UL 0).toArray] w fun e w' => e = .returned (.int .i64 (cmpN r 0)) ∧ Below w.heap.size w w'
  e1 : ∀ n, (Tryz.prog.info? 80).map (·.size) = some (UL n).length
  e2 : ∀ n, (Tryz.prog.info? 80).map (·.size) = some (UL n).toArray.size
/-- the same, where something is left -/
structure RC3 (a b r : Nat) (neg : Bool) : Prop where
  li : ∀ w, Calls Tryz.prog 52 #[.agg (UL a).toArray, .agg (UL r).toArray] w fun e w' => e = .returned (.agg (UL (a - r)).toArray) ∧ Below w.heap.size w w'
  po : ∀ w, Calls Tryz.prog 53 #[.agg (UL (a - r)).toArray, .agg (UL b).toArray] w fun e w' => e = .returned (.agg (UL (a - r + b)).toArray) ∧ Below w.heap.size w w'
  ll : ∀ w, Calls Tryz.prog 52 #[.agg (UL b).toArray, .agg (UL r).toArray] w fun e w' => e = .returned (.agg (UL (b - r)).toArray) ∧ Below w.heap.size w w'
  cl : ∀ w, Calls Tryz.prog 51 #[.agg (UL r).toArray, .agg (UL (b - r)).toArray] w fun e w' => e = .returned (.int .i64 (cmpN r (b - r))) ∧ Below w.heap.size w w'
  di : ∀ w, Calls Tryz.prog 54 #[.agg (UL (a - r)).toArray] w fun e w' => (∃ z, e = .returned (.float .f64 z) ∧ U z ∧ pl z = (rnd (a - r) : Nat)) ∧ Below w.heap.size w w'
  dO : ∀ w, Calls Tryz.prog 54 #[.agg (UL (a - r + b)).toArray] w fun e w' => (∃ z, e = .returned (.float .f64 z) ∧ U z ∧ pl z = (rnd (a - r + b) : Nat)) ∧ Below w.heap.size w w'
  cs : ∀ z N, U z → pl z = (rnd N : Nat) → ∀ w, Calls Tryz.prog 55 #[.float .f64 z, .bool neg] w fun e w' => (∃ r', e = .returned (.float .f64 r') ∧ Hid (U r' ∧ pl r' = pl (word neg (rnd N)))) ∧ w = w'

set_option maxRecDepth 100000 in
set_option maxHeartbeats 4000000 in
theorem rRz {s : ByteArray} {x y a b r : Nat} {neg : Bool} (w : World) (K : Hid (∀ w, Calls Tryz.prog 46 #[.string s] w fun e w' => e = .returned (.bool true) ∧ w = w')) (H : Hid (RC2 x y a b r neg)) (o1 : FloatKind.f64.format.order x x = some .eq) (o2 : FloatKind.f64.format.order y y = some .eq) (h5 : (FloatKind.f64.format.order y 0 == some .eq) = false) (hz : r = 0) :
    Calls Tryz.prog 11 #[.string s, .float .f64 x, .float .f64 y] w fun e w' => e = .returned (.tuple #[.float .f64 x, .bool true]) ∧ Below w.heap.size w w' := by
  subst hz
  have C51 := Lib.hid (show ∀ w, Calls Tryz.prog 51 #[.agg (UL 0).toArray, .agg (UL 0).toArray] w fun e w' => e = .returned (.int .i64 0) ∧ Below w.heap.size w w' from H.out.cc)
  have I := Lib.hid (RA.start w)
  go_enter Tryz.func11, Tryz.ntmps11
  go_upto_region 17 with (first
    | (go_at_call 46; with_reducible refine (K.out _).mono ?_; rintro e w' ⟨rfl, rfl⟩)
    | (go_at_call 35; with_reducible refine (H.out.c3 _).mono ?_; rintro e w' ⟨rfl, rfl⟩)
    | (go_at_call 35; with_reducible refine (H.out.c4 _).mono ?_; rintro e w' ⟨rfl, rfl⟩)
    | (go_at_call 48; with_reducible refine (H.out.ua _).mono ?_; rintro e w1 ⟨rfl, hb1⟩; replace I := Lib.hid (I.out.below hb1); clear hb1)
    | (refine wpList_store_mid rfl 80 (.tmp 11) (.tmp 59) rfl w1.heap.size 0 (UL a).toArray rfl rfl (there_row (row_zero w1)) (H.out.e2 _) (UL_one _) ?_; refine wpLG (fun wx => Hid (RA w wx ((w1.heap.size, a) :: []))) (Lib.hid (I.out.add a)) ?_; clear I; intro w2 I)
    | (go_at_call 48; with_reducible refine (H.out.ub _).mono ?_; rintro e w3 ⟨rfl, hb3⟩; replace I := Lib.hid (I.out.below hb3); clear hb3)
    | (refine wpList_store_mid rfl 80 (.tmp 12) (.tmp 61) rfl w3.heap.size 0 (UL b).toArray rfl rfl (there_row (row_zero w3)) (H.out.e2 _) (UL_one _) ?_; refine wpLG (fun wx => Hid (RA w wx ((w3.heap.size, b) :: [(w1.heap.size, a)]))) (Lib.hid (I.out.add b)) ?_; clear I; intro w4 I)
    | (go_at_call 49; with_reducible refine (H.out.cn _).mono ?_; rintro e w' ⟨rfl, rfl⟩)
    | (refine wpList_load_mid rfl 80 (.tmp 11) rfl w1.heap.size 0 rfl (UL a) _ (I.out.at (by simp)) Tryz.underlying80 rfl (H.out.e1 _) ?_)
    | (refine wpList_load_mid rfl 80 (.tmp 12) rfl w3.heap.size 0 rfl (UL b) _ (I.out.at (by simp)) Tryz.underlying80 rfl (H.out.e1 _) ?_)
    | (go_at_call 50; with_reducible refine (H.out.rest _).mono ?_; rintro e w5 ⟨rfl, hb5⟩; replace I := Lib.hid (I.out.below hb5); clear hb5)
    | (refine wpList_store_mid rfl 80 (.tmp 14) (.tmp 66) rfl w5.heap.size 0 (UL 0).toArray rfl rfl (there_row (row_zero w5)) (H.out.e2 _) (UL_one _) ?_; refine wpLG (fun wx => Hid (RA w wx ((w5.heap.size, 0) :: [(w3.heap.size, b), (w1.heap.size, a)]))) (Lib.hid (I.out.add 0)) ?_; clear I; intro w6 I))
  refine wp_gen' (fun wx => Hid (RA w wx ((w6.heap.size, 0) :: [(w5.heap.size, 0), (w3.heap.size, b), (w1.heap.size, a)]))) (Lib.hid I.out.zero) ?_
  intro w7 I2
  clear I
  go_wp2_with (first
    | (refine wpList_load_mid rfl 80 (.tmp 14) rfl w5.heap.size 0 rfl (UL 0) _ (I2.out.at (by simp)) Tryz.underlying80 rfl (H.out.e1 _) ?_)
    | (refine wpList_load_mid rfl 80 (.tmp 15) rfl w6.heap.size 0 rfl (UL 0) _ (I2.out.at (by simp)) Tryz.underlying80 rfl (H.out.e1 _) ?_)
    | (go_at_call 51; with_reducible refine (C51.out _).mono ?_; rintro e w8 ⟨rfl, hb8⟩; replace I2 := Lib.hid (I2.out.below hb8); clear hb8))
  go_ret2
  exact ⟨rfl, I2.out.l⟩

theorem outB_g (neg : Bool) {r b : Nat} (h : b < 2 * r) : outB 0 neg r b = true := by unfold outB; rw [decide_eq_true h]; simp
theorem outB_e (neg : Bool) {r b : Nat} (h : b = 2 * r) : outB 0 neg r b = !neg := by unfold outB; rw [decide_eq_false (show ¬ b < 2 * r by omega), decide_eq_true h]; simp
theorem outB_l (neg : Bool) {r b : Nat} (h : 2 * r < b) : outB 0 neg r b = false := by unfold outB; rw [decide_eq_false (show ¬ b < 2 * r by omega), decide_eq_false (show ¬ b = 2 * r by omega)]; simp
set_option maxRecDepth 100000 in
set_option maxHeartbeats 16000000 in
theorem rRn {s : ByteArray} {x y a b r N0 : Nat} {neg : Bool} {k : Nat} (w : World) (hk : QK s k) (k4 : k = 0 ∨ k = 1 ∨ k = 2 ∨ k = 3) (K : Hid (∀ w, Calls Tryz.prog 46 #[.string s] w fun e w' => e = .returned (.bool true) ∧ w = w')) (H : Hid (RC2 x y a b r neg)) (G : Hid (RC3 a b r neg)) (o1 : FloatKind.f64.format.order x x = some .eq) (o2 : FloatKind.f64.format.order y y = some .eq) (h5 : (FloatKind.f64.format.order y 0 == some .eq) = false) (hz : cmpN r 0 = 1) (HN : Hid (N0 = if outB k neg r b = true then a - r + b else a - r)) :
    Calls Tryz.prog 11 #[.string s, .float .f64 x, .float .f64 y] w fun e w' => (∃ z, e = .returned (.tuple #[.float .f64 z, .bool true]) ∧ U z ∧ pl z = pl (word neg (rnd N0))) ∧ Below w.heap.size w w' := by
  have C51 := H.out.cc
  rw [hz] at C51
  have C51 := Lib.hid C51
  have C52 := G.out.cl
  have HQ : Hid ((cmpN r (b - r) = 1 ∧ b < 2 * r) ∨ (cmpN r (b - r) = 0 ∧ b = 2 * r) ∨ (cmpN r (b - r) = -1 ∧ 2 * r < b)) := Lib.hid (by
    have hr : 0 < r := by
      rcases Nat.eq_zero_or_pos r with e | e
      · subst e; exact absurd hz (by decide)
      · exact e
    unfold cmpN
    split
    · exact .inl ⟨rfl, by omega⟩
    · split
      · exact .inr (.inr ⟨rfl, by omega⟩)
      · exact .inr (.inl ⟨rfl, by omega⟩))
  generalize cmpN r (b - r) = q at C52 HQ
  have C52 := Lib.hid C52
  have HK := Lib.hid (And.intro hk k4)
  have I := Lib.hid (RA.start w)
  clear hz hk k4
  go_enter Tryz.func11, Tryz.ntmps11
  go_upto_region 17 with (first
    | (go_at_call 46; with_reducible refine (K.out _).mono ?_; rintro e w' ⟨rfl, rfl⟩)
    | (go_at_call 35; with_reducible refine (H.out.c3 _).mono ?_; rintro e w' ⟨rfl, rfl⟩)
    | (go_at_call 35; with_reducible refine (H.out.c4 _).mono ?_; rintro e w' ⟨rfl, rfl⟩)
    | (go_at_call 48; with_reducible refine (H.out.ua _).mono ?_; rintro e w1 ⟨rfl, hb1⟩; replace I := Lib.hid (I.out.below hb1); clear hb1)
    | (refine wpList_store_mid rfl 80 (.tmp 11) (.tmp 59) rfl w1.heap.size 0 (UL a).toArray rfl rfl (there_row (row_zero w1)) (H.out.e2 _) (UL_one _) ?_; refine wpLG (fun wx => Hid (RA w wx ((w1.heap.size, a) :: []))) (Lib.hid (I.out.add a)) ?_; clear I; intro w2 I)
    | (go_at_call 48; with_reducible refine (H.out.ub _).mono ?_; rintro e w3 ⟨rfl, hb3⟩; replace I := Lib.hid (I.out.below hb3); clear hb3)
    | (refine wpList_store_mid rfl 80 (.tmp 12) (.tmp 61) rfl w3.heap.size 0 (UL b).toArray rfl rfl (there_row (row_zero w3)) (H.out.e2 _) (UL_one _) ?_; refine wpLG (fun wx => Hid (RA w wx ((w3.heap.size, b) :: [(w1.heap.size, a)]))) (Lib.hid (I.out.add b)) ?_; clear I; intro w4 I)
    | (go_at_call 49; with_reducible refine (H.out.cn _).mono ?_; rintro e w' ⟨rfl, rfl⟩)
    | (refine wpList_load_mid rfl 80 (.tmp 11) rfl w1.heap.size 0 rfl (UL a) _ (I.out.at (by simp)) Tryz.underlying80 rfl (H.out.e1 _) ?_)
    | (refine wpList_load_mid rfl 80 (.tmp 12) rfl w3.heap.size 0 rfl (UL b) _ (I.out.at (by simp)) Tryz.underlying80 rfl (H.out.e1 _) ?_)
    | (go_at_call 50; with_reducible refine (H.out.rest _).mono ?_; rintro e w5 ⟨rfl, hb5⟩; replace I := Lib.hid (I.out.below hb5); clear hb5)
    | (refine wpList_store_mid rfl 80 (.tmp 14) (.tmp 66) rfl w5.heap.size 0 (UL r).toArray rfl rfl (there_row (row_zero w5)) (H.out.e2 _) (UL_one _) ?_; refine wpLG (fun wx => Hid (RA w wx ((w5.heap.size, r) :: [(w3.heap.size, b), (w1.heap.size, a)]))) (Lib.hid (I.out.add r)) ?_; clear I; intro w6 I))
  refine wp_gen' (fun wx => Hid (RA w wx ((w6.heap.size, 0) :: [(w5.heap.size, r), (w3.heap.size, b), (w1.heap.size, a)]))) (Lib.hid I.out.zero) ?_
  intro w7 I2
  clear I
  go_upto_region 23 with (first
    | (refine wpList_load_mid rfl 80 (.tmp 14) rfl w5.heap.size 0 rfl (UL r) _ (I2.out.at (by simp)) Tryz.underlying80 rfl (H.out.e1 _) ?_)
    | (refine wpList_load_mid rfl 80 (.tmp 15) rfl w6.heap.size 0 rfl (UL 0) _ (I2.out.at (by simp)) Tryz.underlying80 rfl (H.out.e1 _) ?_)
    | (go_at_call 51; with_reducible refine (C51.out _).mono ?_; rintro e w8 ⟨rfl, hb8⟩; replace I2 := Lib.hid (I2.out.below hb8); clear hb8)
    | (refine wpList_load_mid rfl 80 (.tmp 11) rfl w1.heap.size 0 rfl (UL a) _ (I2.out.at (by simp)) Tryz.underlying80 rfl (H.out.e1 _) ?_)
    | (refine wpList_load_mid rfl 80 (.tmp 12) rfl w3.heap.size 0 rfl (UL b) _ (I2.out.at (by simp)) Tryz.underlying80 rfl (H.out.e1 _) ?_)
    | (go_at_call 52; with_reducible refine (G.out.li _).mono ?_; rintro e w9 ⟨rfl, hb⟩; replace I2 := Lib.hid (I2.out.below hb); clear hb)
    | (refine wpList_store_mid rfl 80 (.tmp 16) (.tmp 74) rfl w9.heap.size 0 (UL (a - r)).toArray rfl rfl (there_row (row_zero w9)) (H.out.e2 _) (UL_one _) ?_; refine wpLG (fun wx => Hid (RA w wx ((w9.heap.size, (a - r)) :: (w6.heap.size, 0) :: [(w5.heap.size, r), (w3.heap.size, b), (w1.heap.size, a)]))) (Lib.hid (I2.out.add (a - r))) ?_; clear I2; intro w10 I2)
    | (refine wpList_load_mid rfl 80 (.tmp 16) rfl w9.heap.size 0 rfl (UL (a - r)) _ (I2.out.at (by simp)) Tryz.underlying80 rfl (H.out.e1 _) ?_)
    | (go_at_call 53; with_reducible refine (G.out.po _).mono ?_; rintro e w11 ⟨rfl, hb⟩; replace I2 := Lib.hid (I2.out.below hb); clear hb)
    | (refine wpList_store_mid rfl 80 (.tmp 17) (.tmp 77) rfl w11.heap.size 0 (UL (a - r + b)).toArray rfl rfl (there_row (row_zero w11)) (H.out.e2 _) (UL_one _) ?_; refine wpLG (fun wx => Hid (RA w wx ((w11.heap.size, (a - r + b)) :: (w9.heap.size, (a - r)) :: (w6.heap.size, 0) :: [(w5.heap.size, r), (w3.heap.size, b), (w1.heap.size, a)]))) (Lib.hid (I2.out.add (a - r + b))) ?_; clear I2; intro w12 I2)
    | (go_at_call 52; with_reducible refine (G.out.ll _).mono ?_; rintro e w13 ⟨rfl, hb⟩; replace I2 := Lib.hid (I2.out.below hb); clear hb)
    | (refine wpList_store_mid rfl 80 (.tmp 18) (.tmp 80) rfl w13.heap.size 0 (UL (b - r)).toArray rfl rfl (there_row (row_zero w13)) (H.out.e2 _) (UL_one _) ?_; refine wpLG (fun wx => Hid (RA w wx ((w13.heap.size, (b - r)) :: (w11.heap.size, (a - r + b)) :: (w9.heap.size, (a - r)) :: (w6.heap.size, 0) :: [(w5.heap.size, r), (w3.heap.size, b), (w1.heap.size, a)]))) (Lib.hid (I2.out.add (b - r))) ?_; clear I2; intro w14 I2)
    | (refine wpList_load_mid rfl 80 (.tmp 18) rfl w13.heap.size 0 rfl (UL (b - r)) _ (I2.out.at (by simp)) Tryz.underlying80 rfl (H.out.e1 _) ?_)
    | (go_at_call 51; with_reducible refine (C52.out _).mono ?_; rintro e w15 ⟨rfl, hb⟩; replace I2 := Lib.hid (I2.out.below hb); clear hb))
  obtain ⟨hk, k4⟩ := HK.out
  clear HK
  rcases k4 with rfl | rfl | rfl | rfl
  · have n0 : (s.toList == [110, 101, 97, 114, 101, 115, 116]) = true := hk.n0
    have n1 : (s.toList == [117, 112]) = false := hk.n1
    have n2 : (s.toList == [100, 111, 119, 110]) = false := hk.n2
    have n3 : (s.toList == [116, 111, 45, 122, 101, 114, 111]) = false := hk.n3
    clear hk
    cases neg with
    | true =>
      rcases HQ.out with h | h | h
      · have h' : q = 1 := h.1
        have HI := Lib.hid (HN.out.trans ((if_pos (outB_g true h.2))))
        subst h'
        clear h HQ HN
        go_wp2_with (first
          | (refine wpList_load_mid rfl 80 (.tmp 17) rfl w11.heap.size 0 rfl (UL (a - r + b)) _ (I2.out.at (by simp)) Tryz.underlying80 rfl (H.out.e1 _) ?_)
          | (refine wpList_load_mid rfl 80 (.tmp 16) rfl w9.heap.size 0 rfl (UL (a - r)) _ (I2.out.at (by simp)) Tryz.underlying80 rfl (H.out.e1 _) ?_)
          | (go_at_call 54; with_reducible refine (G.out.di _).mono ?_; rintro e w17 ⟨⟨z, rfl, hr, hp⟩, hb⟩; replace I2 := Lib.hid (I2.out.below hb); (try clear HR); have HR := Lib.hid (And.intro hr hp); clear hr hp hb)
          | (go_at_call 54; with_reducible refine (G.out.dO _).mono ?_; rintro e w16 ⟨⟨z, rfl, hr, hp⟩, hb⟩; replace I2 := Lib.hid (I2.out.below hb); have HR := Lib.hid (And.intro hr hp); clear hr hp hb)
          | (go_at_call 55; refine (G.out.cs _ _ HR.out.1 HR.out.2 _).mono ?_; rintro e w' ⟨⟨r', rfl, H'⟩, rfl⟩))
        go_ret2
        exact ⟨⟨_, rfl, H'.out.1, H'.out.2.trans (by rw [HI.out])⟩, I2.out.l⟩
      · have h' : q = 0 := h.1
        have HI := Lib.hid (HN.out.trans (if_neg (Bool.eq_false_iff.1 (outB_e true h.2))))
        subst h'
        clear h HQ HN
        go_wp2_with (first
          | (refine wpList_load_mid rfl 80 (.tmp 17) rfl w11.heap.size 0 rfl (UL (a - r + b)) _ (I2.out.at (by simp)) Tryz.underlying80 rfl (H.out.e1 _) ?_)
          | (refine wpList_load_mid rfl 80 (.tmp 16) rfl w9.heap.size 0 rfl (UL (a - r)) _ (I2.out.at (by simp)) Tryz.underlying80 rfl (H.out.e1 _) ?_)
          | (go_at_call 54; with_reducible refine (G.out.di _).mono ?_; rintro e w17 ⟨⟨z, rfl, hr, hp⟩, hb⟩; replace I2 := Lib.hid (I2.out.below hb); (try clear HR); have HR := Lib.hid (And.intro hr hp); clear hr hp hb)
          | (go_at_call 54; with_reducible refine (G.out.dO _).mono ?_; rintro e w16 ⟨⟨z, rfl, hr, hp⟩, hb⟩; replace I2 := Lib.hid (I2.out.below hb); have HR := Lib.hid (And.intro hr hp); clear hr hp hb)
          | (go_at_call 55; refine (G.out.cs _ _ HR.out.1 HR.out.2 _).mono ?_; rintro e w' ⟨⟨r', rfl, H'⟩, rfl⟩))
        go_ret2
        exact ⟨⟨_, rfl, H'.out.1, H'.out.2.trans (by rw [HI.out])⟩, I2.out.l⟩
      · have h' : q = -1 := h.1
        have HI := Lib.hid (HN.out.trans (if_neg (Bool.eq_false_iff.1 (outB_l true h.2))))
        subst h'
        clear h HQ HN
        go_wp2_with (first
          | (refine wpList_load_mid rfl 80 (.tmp 17) rfl w11.heap.size 0 rfl (UL (a - r + b)) _ (I2.out.at (by simp)) Tryz.underlying80 rfl (H.out.e1 _) ?_)
          | (refine wpList_load_mid rfl 80 (.tmp 16) rfl w9.heap.size 0 rfl (UL (a - r)) _ (I2.out.at (by simp)) Tryz.underlying80 rfl (H.out.e1 _) ?_)
          | (go_at_call 54; with_reducible refine (G.out.di _).mono ?_; rintro e w17 ⟨⟨z, rfl, hr, hp⟩, hb⟩; replace I2 := Lib.hid (I2.out.below hb); (try clear HR); have HR := Lib.hid (And.intro hr hp); clear hr hp hb)
          | (go_at_call 54; with_reducible refine (G.out.dO _).mono ?_; rintro e w16 ⟨⟨z, rfl, hr, hp⟩, hb⟩; replace I2 := Lib.hid (I2.out.below hb); have HR := Lib.hid (And.intro hr hp); clear hr hp hb)
          | (go_at_call 55; refine (G.out.cs _ _ HR.out.1 HR.out.2 _).mono ?_; rintro e w' ⟨⟨r', rfl, H'⟩, rfl⟩))
        go_ret2
        exact ⟨⟨_, rfl, H'.out.1, H'.out.2.trans (by rw [HI.out])⟩, I2.out.l⟩
    | false =>
      rcases HQ.out with h | h | h
      · have h' : q = 1 := h.1
        have HI := Lib.hid (HN.out.trans ((if_pos (outB_g false h.2))))
        subst h'
        clear h HQ HN
        go_wp2_with (first
          | (refine wpList_load_mid rfl 80 (.tmp 17) rfl w11.heap.size 0 rfl (UL (a - r + b)) _ (I2.out.at (by simp)) Tryz.underlying80 rfl (H.out.e1 _) ?_)
          | (refine wpList_load_mid rfl 80 (.tmp 16) rfl w9.heap.size 0 rfl (UL (a - r)) _ (I2.out.at (by simp)) Tryz.underlying80 rfl (H.out.e1 _) ?_)
          | (go_at_call 54; with_reducible refine (G.out.di _).mono ?_; rintro e w17 ⟨⟨z, rfl, hr, hp⟩, hb⟩; replace I2 := Lib.hid (I2.out.below hb); (try clear HR); have HR := Lib.hid (And.intro hr hp); clear hr hp hb)
          | (go_at_call 54; with_reducible refine (G.out.dO _).mono ?_; rintro e w16 ⟨⟨z, rfl, hr, hp⟩, hb⟩; replace I2 := Lib.hid (I2.out.below hb); have HR := Lib.hid (And.intro hr hp); clear hr hp hb)
          | (go_at_call 55; refine (G.out.cs _ _ HR.out.1 HR.out.2 _).mono ?_; rintro e w' ⟨⟨r', rfl, H'⟩, rfl⟩))
        go_ret2
        exact ⟨⟨_, rfl, H'.out.1, H'.out.2.trans (by rw [HI.out])⟩, I2.out.l⟩
      · have h' : q = 0 := h.1
        have HI := Lib.hid (HN.out.trans ((if_pos (outB_e false h.2))))
        subst h'
        clear h HQ HN
        go_wp2_with (first
          | (refine wpList_load_mid rfl 80 (.tmp 17) rfl w11.heap.size 0 rfl (UL (a - r + b)) _ (I2.out.at (by simp)) Tryz.underlying80 rfl (H.out.e1 _) ?_)
          | (refine wpList_load_mid rfl 80 (.tmp 16) rfl w9.heap.size 0 rfl (UL (a - r)) _ (I2.out.at (by simp)) Tryz.underlying80 rfl (H.out.e1 _) ?_)
          | (go_at_call 54; with_reducible refine (G.out.di _).mono ?_; rintro e w17 ⟨⟨z, rfl, hr, hp⟩, hb⟩; replace I2 := Lib.hid (I2.out.below hb); (try clear HR); have HR := Lib.hid (And.intro hr hp); clear hr hp hb)
          | (go_at_call 54; with_reducible refine (G.out.dO _).mono ?_; rintro e w16 ⟨⟨z, rfl, hr, hp⟩, hb⟩; replace I2 := Lib.hid (I2.out.below hb); have HR := Lib.hid (And.intro hr hp); clear hr hp hb)
          | (go_at_call 55; refine (G.out.cs _ _ HR.out.1 HR.out.2 _).mono ?_; rintro e w' ⟨⟨r', rfl, H'⟩, rfl⟩))
        go_ret2
        exact ⟨⟨_, rfl, H'.out.1, H'.out.2.trans (by rw [HI.out])⟩, I2.out.l⟩
      · have h' : q = -1 := h.1
        have HI := Lib.hid (HN.out.trans (if_neg (Bool.eq_false_iff.1 (outB_l false h.2))))
        subst h'
        clear h HQ HN
        go_wp2_with (first
          | (refine wpList_load_mid rfl 80 (.tmp 17) rfl w11.heap.size 0 rfl (UL (a - r + b)) _ (I2.out.at (by simp)) Tryz.underlying80 rfl (H.out.e1 _) ?_)
          | (refine wpList_load_mid rfl 80 (.tmp 16) rfl w9.heap.size 0 rfl (UL (a - r)) _ (I2.out.at (by simp)) Tryz.underlying80 rfl (H.out.e1 _) ?_)
          | (go_at_call 54; with_reducible refine (G.out.di _).mono ?_; rintro e w17 ⟨⟨z, rfl, hr, hp⟩, hb⟩; replace I2 := Lib.hid (I2.out.below hb); (try clear HR); have HR := Lib.hid (And.intro hr hp); clear hr hp hb)
          | (go_at_call 54; with_reducible refine (G.out.dO _).mono ?_; rintro e w16 ⟨⟨z, rfl, hr, hp⟩, hb⟩; replace I2 := Lib.hid (I2.out.below hb); have HR := Lib.hid (And.intro hr hp); clear hr hp hb)
          | (go_at_call 55; refine (G.out.cs _ _ HR.out.1 HR.out.2 _).mono ?_; rintro e w' ⟨⟨r', rfl, H'⟩, rfl⟩))
        go_ret2
        exact ⟨⟨_, rfl, H'.out.1, H'.out.2.trans (by rw [HI.out])⟩, I2.out.l⟩
  · have n0 : (s.toList == [110, 101, 97, 114, 101, 115, 116]) = false := hk.n0
    have n1 : (s.toList == [117, 112]) = true := hk.n1
    have n2 : (s.toList == [100, 111, 119, 110]) = false := hk.n2
    have n3 : (s.toList == [116, 111, 45, 122, 101, 114, 111]) = false := hk.n3
    clear hk
    cases neg with
    | true =>
      have HI := Lib.hid (HN.out.trans (if_neg Bool.false_ne_true ))
      clear HQ HN
      go_wp2_with (first
        | (refine wpList_load_mid rfl 80 (.tmp 17) rfl w11.heap.size 0 rfl (UL (a - r + b)) _ (I2.out.at (by simp)) Tryz.underlying80 rfl (H.out.e1 _) ?_)
        | (refine wpList_load_mid rfl 80 (.tmp 16) rfl w9.heap.size 0 rfl (UL (a - r)) _ (I2.out.at (by simp)) Tryz.underlying80 rfl (H.out.e1 _) ?_)
        | (go_at_call 54; with_reducible refine (G.out.di _).mono ?_; rintro e w17 ⟨⟨z, rfl, hr, hp⟩, hb⟩; replace I2 := Lib.hid (I2.out.below hb); (try clear HR); have HR := Lib.hid (And.intro hr hp); clear hr hp hb)
        | (go_at_call 54; with_reducible refine (G.out.dO _).mono ?_; rintro e w16 ⟨⟨z, rfl, hr, hp⟩, hb⟩; replace I2 := Lib.hid (I2.out.below hb); have HR := Lib.hid (And.intro hr hp); clear hr hp hb)
        | (go_at_call 55; refine (G.out.cs _ _ HR.out.1 HR.out.2 _).mono ?_; rintro e w' ⟨⟨r', rfl, H'⟩, rfl⟩))
      go_ret2
      exact ⟨⟨_, rfl, H'.out.1, H'.out.2.trans (by rw [HI.out])⟩, I2.out.l⟩
    | false =>
      have HI := Lib.hid (HN.out.trans (if_pos rfl ))
      clear HQ HN
      go_wp2_with (first
        | (refine wpList_load_mid rfl 80 (.tmp 17) rfl w11.heap.size 0 rfl (UL (a - r + b)) _ (I2.out.at (by simp)) Tryz.underlying80 rfl (H.out.e1 _) ?_)
        | (refine wpList_load_mid rfl 80 (.tmp 16) rfl w9.heap.size 0 rfl (UL (a - r)) _ (I2.out.at (by simp)) Tryz.underlying80 rfl (H.out.e1 _) ?_)
        | (go_at_call 54; with_reducible refine (G.out.di _).mono ?_; rintro e w17 ⟨⟨z, rfl, hr, hp⟩, hb⟩; replace I2 := Lib.hid (I2.out.below hb); (try clear HR); have HR := Lib.hid (And.intro hr hp); clear hr hp hb)
        | (go_at_call 54; with_reducible refine (G.out.dO _).mono ?_; rintro e w16 ⟨⟨z, rfl, hr, hp⟩, hb⟩; replace I2 := Lib.hid (I2.out.below hb); have HR := Lib.hid (And.intro hr hp); clear hr hp hb)
        | (go_at_call 55; refine (G.out.cs _ _ HR.out.1 HR.out.2 _).mono ?_; rintro e w' ⟨⟨r', rfl, H'⟩, rfl⟩))
      go_ret2
      exact ⟨⟨_, rfl, H'.out.1, H'.out.2.trans (by rw [HI.out])⟩, I2.out.l⟩
  · have n0 : (s.toList == [110, 101, 97, 114, 101, 115, 116]) = false := hk.n0
    have n1 : (s.toList == [117, 112]) = false := hk.n1
    have n2 : (s.toList == [100, 111, 119, 110]) = true := hk.n2
    have n3 : (s.toList == [116, 111, 45, 122, 101, 114, 111]) = false := hk.n3
    clear hk
    cases neg with
    | true =>
      have HI := Lib.hid (HN.out.trans (if_pos rfl ))
      clear HQ HN
      go_wp2_with (first
        | (refine wpList_load_mid rfl 80 (.tmp 17) rfl w11.heap.size 0 rfl (UL (a - r + b)) _ (I2.out.at (by simp)) Tryz.underlying80 rfl (H.out.e1 _) ?_)
        | (refine wpList_load_mid rfl 80 (.tmp 16) rfl w9.heap.size 0 rfl (UL (a - r)) _ (I2.out.at (by simp)) Tryz.underlying80 rfl (H.out.e1 _) ?_)
        | (go_at_call 54; with_reducible refine (G.out.di _).mono ?_; rintro e w17 ⟨⟨z, rfl, hr, hp⟩, hb⟩; replace I2 := Lib.hid (I2.out.below hb); (try clear HR); have HR := Lib.hid (And.intro hr hp); clear hr hp hb)
        | (go_at_call 54; with_reducible refine (G.out.dO _).mono ?_; rintro e w16 ⟨⟨z, rfl, hr, hp⟩, hb⟩; replace I2 := Lib.hid (I2.out.below hb); have HR := Lib.hid (And.intro hr hp); clear hr hp hb)
        | (go_at_call 55; refine (G.out.cs _ _ HR.out.1 HR.out.2 _).mono ?_; rintro e w' ⟨⟨r', rfl, H'⟩, rfl⟩))
      go_ret2
      exact ⟨⟨_, rfl, H'.out.1, H'.out.2.trans (by rw [HI.out])⟩, I2.out.l⟩
    | false =>
      have HI := Lib.hid (HN.out.trans (if_neg Bool.false_ne_true ))
      clear HQ HN
      go_wp2_with (first
        | (refine wpList_load_mid rfl 80 (.tmp 17) rfl w11.heap.size 0 rfl (UL (a - r + b)) _ (I2.out.at (by simp)) Tryz.underlying80 rfl (H.out.e1 _) ?_)
        | (refine wpList_load_mid rfl 80 (.tmp 16) rfl w9.heap.size 0 rfl (UL (a - r)) _ (I2.out.at (by simp)) Tryz.underlying80 rfl (H.out.e1 _) ?_)
        | (go_at_call 54; with_reducible refine (G.out.di _).mono ?_; rintro e w17 ⟨⟨z, rfl, hr, hp⟩, hb⟩; replace I2 := Lib.hid (I2.out.below hb); (try clear HR); have HR := Lib.hid (And.intro hr hp); clear hr hp hb)
        | (go_at_call 54; with_reducible refine (G.out.dO _).mono ?_; rintro e w16 ⟨⟨z, rfl, hr, hp⟩, hb⟩; replace I2 := Lib.hid (I2.out.below hb); have HR := Lib.hid (And.intro hr hp); clear hr hp hb)
        | (go_at_call 55; refine (G.out.cs _ _ HR.out.1 HR.out.2 _).mono ?_; rintro e w' ⟨⟨r', rfl, H'⟩, rfl⟩))
      go_ret2
      exact ⟨⟨_, rfl, H'.out.1, H'.out.2.trans (by rw [HI.out])⟩, I2.out.l⟩
  · have n0 : (s.toList == [110, 101, 97, 114, 101, 115, 116]) = false := hk.n0
    have n1 : (s.toList == [117, 112]) = false := hk.n1
    have n2 : (s.toList == [100, 111, 119, 110]) = false := hk.n2
    have n3 : (s.toList == [116, 111, 45, 122, 101, 114, 111]) = true := hk.n3
    clear hk
    cases neg with
    | true =>
      have HI := Lib.hid (HN.out.trans (if_neg Bool.false_ne_true ))
      clear HQ HN
      go_wp2_with (first
        | (refine wpList_load_mid rfl 80 (.tmp 17) rfl w11.heap.size 0 rfl (UL (a - r + b)) _ (I2.out.at (by simp)) Tryz.underlying80 rfl (H.out.e1 _) ?_)
        | (refine wpList_load_mid rfl 80 (.tmp 16) rfl w9.heap.size 0 rfl (UL (a - r)) _ (I2.out.at (by simp)) Tryz.underlying80 rfl (H.out.e1 _) ?_)
        | (go_at_call 54; with_reducible refine (G.out.di _).mono ?_; rintro e w17 ⟨⟨z, rfl, hr, hp⟩, hb⟩; replace I2 := Lib.hid (I2.out.below hb); (try clear HR); have HR := Lib.hid (And.intro hr hp); clear hr hp hb)
        | (go_at_call 54; with_reducible refine (G.out.dO _).mono ?_; rintro e w16 ⟨⟨z, rfl, hr, hp⟩, hb⟩; replace I2 := Lib.hid (I2.out.below hb); have HR := Lib.hid (And.intro hr hp); clear hr hp hb)
        | (go_at_call 55; refine (G.out.cs _ _ HR.out.1 HR.out.2 _).mono ?_; rintro e w' ⟨⟨r', rfl, H'⟩, rfl⟩))
      go_ret2
      exact ⟨⟨_, rfl, H'.out.1, H'.out.2.trans (by rw [HI.out])⟩, I2.out.l⟩
    | false =>
      have HI := Lib.hid (HN.out.trans (if_neg Bool.false_ne_true ))
      clear HQ HN
      go_wp2_with (first
        | (refine wpList_load_mid rfl 80 (.tmp 17) rfl w11.heap.size 0 rfl (UL (a - r + b)) _ (I2.out.at (by simp)) Tryz.underlying80 rfl (H.out.e1 _) ?_)
        | (refine wpList_load_mid rfl 80 (.tmp 16) rfl w9.heap.size 0 rfl (UL (a - r)) _ (I2.out.at (by simp)) Tryz.underlying80 rfl (H.out.e1 _) ?_)
        | (go_at_call 54; with_reducible refine (G.out.di _).mono ?_; rintro e w17 ⟨⟨z, rfl, hr, hp⟩, hb⟩; replace I2 := Lib.hid (I2.out.below hb); (try clear HR); have HR := Lib.hid (And.intro hr hp); clear hr hp hb)
        | (go_at_call 54; with_reducible refine (G.out.dO _).mono ?_; rintro e w16 ⟨⟨z, rfl, hr, hp⟩, hb⟩; replace I2 := Lib.hid (I2.out.below hb); have HR := Lib.hid (And.intro hr hp); clear hr hp hb)
        | (go_at_call 55; refine (G.out.cs _ _ HR.out.1 HR.out.2 _).mono ?_; rintro e w' ⟨⟨r', rfl, H'⟩, rfl⟩))
      go_ret2
      exact ⟨⟨_, rfl, H'.out.1, H'.out.2.trans (by rw [HI.out])⟩, I2.out.l⟩

end Go.Proofs.YthohhepoddnbnaaGreatDoor

namespace Go.Proofs.YthohhepoddnbnaaGreatDoor
open Go.RowKit Fl

set_option maxRecDepth 100000 in
theorem lRound4 (s : ByteArray) (x y : Nat) (w : World) (h : WKi s = 4) : Calls Tryz.prog 10 #[.string s, .float .f64 x, .float .f64 y] w fun e w' => e = .returned (.tuple #[.float .f64 0, .int .i64 1]) ∧ w = w' := by
  have C := lKnown s
  rw [h] at C
  have C := Lib.hid (show ∀ w, Calls Tryz.prog 33 #[.string s] w fun e w' => e = .returned (.bool false) ∧ w = w' from C)
  clear h
  go_enter Tryz.func10, Tryz.ntmps10
  go_wp2_with (go_at_call 33; refine (C.out _).mono ?_; rintro e w' ⟨rfl, rfl⟩)
  go_ret2
  exact ⟨rfl, rfl⟩
set_option maxRecDepth 100000 in
theorem rRound4 (s : ByteArray) (x y : Nat) (w : World) (h : WKi s = 4) : Calls Tryz.prog 11 #[.string s, .float .f64 x, .float .f64 y] w fun e w' => e = .returned (.tuple #[.float .f64 0, .bool false]) ∧ w = w' := by
  have C := rWord s
  rw [h] at C
  have C := Lib.hid (show ∀ w, Calls Tryz.prog 46 #[.string s] w fun e w' => e = .returned (.bool false) ∧ w = w' from C)
  clear h
  go_enter Tryz.func11, Tryz.ntmps11
  go_wp2_with (go_at_call 46; refine (C.out _).mono ?_; rintro e w' ⟨rfl, rfl⟩)
  go_ret2
  exact ⟨rfl, rfl⟩
end Go.Proofs.YthohhepoddnbnaaGreatDoor
