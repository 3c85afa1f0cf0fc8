/- galleyref14: Mod of numbers. -/
import Derived.Test.YthohhepoddnbnaaGreatDoorMgCbL
import Derived.Deep.RegionHeld3
namespace Go.Proofs.YthohhepoddnbnaaGreatDoor
open Go.RowKit Fl

theorem word_pl (s : Bool) (N r : Nat) (hr : U r) (h : pl r = (rnd N : Nat)) : pl (if s then ng r else r) = pl (word s (rnd N)) ∧ U (if s then ng r else r) := by
  have h1 : pl r = pl (rnd N) := by rw [h, rnd_pl]
  have hk : U (rnd N) := by have := rnd_lt N; unfold U; omega
  cases s
  · rw [if_neg (by decide), word_false]; exact ⟨h1, hr⟩
  · rw [if_pos rfl, ← ng_word _ (rnd_lt N), pl_ng hr, pl_ng hk, h1]
    refine ⟨rfl, ?_⟩
    rw [ng_eq r hr]
    have := rg_lt r
    unfold word U
    split <;> omega
/-- two rows in memory -/
structure M2 (w wx : World) (b c n r : Nat) : Prop where
  rb : URow wx b 0 (dg n)
  rc : URow wx c 0 (dg r)
  lb : b < wx.heap.size
  lc : c < wx.heap.size
  wb : w.heap.size ≤ b
  wc : w.heap.size ≤ c
  l : Below w.heap.size w wx
theorem M2.below {w wx wy : World} {b c n r : Nat} (h : M2 w wx b c n r) (k : Below wx.heap.size wx wy) : M2 w wy b c n r :=
  ⟨h.rb.below k h.lb, h.rc.below k h.lc, Nat.lt_of_lt_of_le h.lb k.size, Nat.lt_of_lt_of_le h.lc k.size, h.wb, h.wc, h.l.trans (k.mono h.l.size)⟩
theorem row_zero (w : World) : URow (w.alloc (.cells Tryz.zeroCells80 80)) w.heap.size 0 (dg 0) := by
  rw [zero80]; exact (urow_zero w).congr (fun j _ => (dg_zero' j).symm)
theorem there_len {w : World} {b n m : Nat} (h : URow w b 0 (dg n)) : w.there b 0 (UL m).length := h.there (UL_len _)
theorem range_lay {w : World} {b c : Nat} {cs l : List Value} (h : w.rangeAt b 0 l) (hne : b ≠ c) : (w.setCells c 0 cs).rangeAt b 0 l := fun j v hj => (World.cell?_setCells_out _ _ _ _ _ (fun e _ => absurd e hne)).trans (h j v hj)
theorem size_new (w : World) (o : Obj) : w.heap.size < (w.alloc o).heap.size := by simp
theorem below_new (w : World) (o : Obj) : Below w.heap.size w (w.alloc o) := (Below.refl _ _).alloc (Nat.le_refl _) _
theorem there_row {w : World} {b n m : Nat} (h : URow w b 0 (dg n)) : w.there b 0 (UL m).toArray.size := h.there (by rw [List.size_toArray, UL_len])
/-- one row is laid over the second -/
theorem M2.lay {w wx : World} {b c n r : Nat} (h : M2 w wx b c n r) (hbc : b ≠ c) (m : Nat) : M2 w (wx.setCells c 0 (UL m)) b c n m :=
  ⟨fun j hj => by
    refine ⟨(World.cell?_setCells_out _ _ _ _ _ (fun e _ => absurd e hbc)).trans (h.rb j hj).1, ?_⟩
    rw [World.frozen?_setCells]; exact (h.rb j hj).2, urow_laid h.rc, by rw [size_setCells]; exact h.lb, by rw [size_setCells]; exact h.lc, h.wb, h.wc, below_setCells h.l h.wc 0 (UL m)⟩
theorem M2.mk3 {w w2 wx : World} {b c n : Nat} (h : URow w2 b 0 (dg n)) (hb : b < w2.heap.size) (hw : w.heap.size ≤ b) (B : Below w.heap.size w w2) (G : Below w2.heap.size w2 wx) (hc : URow wx c 0 (dg 0)) (lc : c < wx.heap.size) (wc : w2.heap.size ≤ c) : M2 w wx b c n 0 ∧ b ≠ c :=
  ⟨⟨h.below G hb, hc, Nat.lt_of_lt_of_le hb G.size, lc, hw, Nat.le_trans B.size wc, B.trans (G.mono B.size)⟩, by omega⟩
theorem _root_.Go.RowKit.Below.new {B : Nat} {w wx : World} (h : Below B w wx) (hB : B ≤ wx.heap.size) {o : Obj} : Below B w (wx.alloc o) := h.alloc hB o
theorem put_none (a : Act) (v : Value) : a.put none v = a := rfl
set_option maxRecDepth 100000 in
set_option maxHeartbeats 4000000 in
theorem rModF (x y : Nat) (w : World) (hx : U x) (hy : U y) (h : ¬ remN x y) (hi : isI y = false) : Calls Tryz.prog 19 #[.float .f64 x, .float .f64 y] w fun e w' => (∃ r, e = .returned (.float .f64 r) ∧ U r ∧ pl r = pl (modF x y)) ∧ Below w.heap.size w w' := by
  have C3 := Lib.hid (fun w => c130 x w hx)
  have C4 := Lib.hid (fun w => c130 y w hy)
  have h1 : isN x = false := by cases e : isN x; rfl; exact absurd (.inl e) h
  have h2 : isN y = false := by cases e : isN y; rfl; exact absurd (.inr (.inl e)) h
  have h3 : isI x = false := by cases e : isI x; rfl; exact absurd (.inr (.inr (.inl e))) h
  have h4 : ¬ FloatKind.f64.format.order y 0 = some .eq := fun e => h (.inr (.inr (.inr e)))
  have h5 : (FloatKind.f64.format.order y 0 == some .eq) = false := beq_eq_false_iff_ne.2 h4
  have fx := fin_of x h1 h3
  have fy := fin_of y h2 hi
  have o1 : FloatKind.f64.format.order x x = some .eq := by rw [ord_self x hx, h1]; rfl
  have o2 : FloatKind.f64.format.order y y = some .eq := by rw [ord_self y hy, h2]; rfl
  have U1 := Lib.hid (fun w => lUnits x w hx fx)
  have U2 := Lib.hid (fun w => lUnits y w hy fy)
  have vx := val_fin x fx
  have vy := val_fin y fy
  have v0 : 0 < Fl.val 52 (rg y) := by rw [val_parts]; exact Nat.mul_pos (pM_pos (rg y) (fun e => h4 (order_zero y hy h2 e))) (Nat.two_pow_pos _)
  have CR := Lib.hid (fun w => lRest (Fl.val 52 (rg x)) (Fl.val 52 (rg y)) w v0 vy (lt_half vx))
  have S1 := Lib.hid (fun w => lNeg x w hx)
  have S2 := Lib.hid (fun w => lNeg y w hy)
  have hM : modF x y = word (sg y) (rnd (modN x y)) := rfl
  have hN : modN x y = if sg x = sg y ∨ Fl.val 52 (rg x) % Fl.val 52 (rg y) = 0 then Fl.val 52 (rg x) % Fl.val 52 (rg y) else Fl.val 52 (rg y) - Fl.val 52 (rg x) % Fl.val 52 (rg y) := rfl
  have CS : Hid (∀ r N, U r → pl r = (rnd N : Nat) → ∀ w, Calls Tryz.prog 55 #[.float .f64 r, .bool (sg y)] w fun e w' => (∃ r', e = .returned (.float .f64 r') ∧ Hid (U r' ∧ pl r' = pl (word (sg y) (rnd N)))) ∧ w = w') := Lib.hid fun r N hr hp w => (lSigned r (sg y) w hr).mono fun e w' ⟨he, hw⟩ => ⟨⟨_, he, Lib.hid ⟨(word_pl _ _ r hr hp).2, (word_pl _ _ r hr hp).1⟩⟩, hw⟩
  rw [h3] at C3
  rw [hi] at C4
  rw [hM, hN]
  clear h h1 h2 h3 hi hx hy fx fy hM hN
  have E1 := Lib.hid (fun n => show (Tryz.prog.info? 80).map (·.size) = some (UL n).length by rw [UL_len]; exact size108)
  have E2 := Lib.hid (fun n => show (Tryz.prog.info? 80).map (·.size) = some (UL n).toArray.size by rw [List.size_toArray, UL_len]; exact size108)
  generalize Fl.val 52 (rg x) = a at *
  generalize Fl.val 52 (rg y) = b at *
  generalize sg x = s1 at *
  generalize sg y = s2 at *
  have HB := Lib.hid (And.intro (Nat.mod_lt a v0) (And.intro vx vy))
  clear vx vy v0
  generalize a % b = r at *
  obtain ⟨N0, hN0⟩ : ∃ N0, N0 = if s1 = s2 ∨ r = 0 then r else b - r := ⟨_, rfl⟩
  rw [← hN0]
  have HN0 := Lib.hid hN0
  clear hN0
  go_enter Tryz.func19, Tryz.ntmps19
  go_upto_region 7 with (first
    | (go_at_call 49; with_reducible refine (S1.out _).mono ?_; rintro e w' ⟨rfl, rfl⟩)
    | (go_at_call 49; with_reducible refine (S2.out _).mono ?_; rintro e w' ⟨rfl, rfl⟩)
    | (go_at_call 35; with_reducible refine (C3.out _).mono ?_; rintro e w' ⟨rfl, rfl⟩)
    | (go_at_call 35; with_reducible refine (C4.out _).mono ?_; rintro e w' ⟨rfl, rfl⟩)
    | (go_at_call 48; with_reducible refine (U2.out _).mono ?_; rintro e w1 ⟨rfl, hb1⟩; have I := Lib.hid hb1; have L1 := Lib.hid (there_row (m := b) (row_zero w1)); clear hb1)
    | (refine wpList_store_mid rfl 80 (.tmp 6) (.tmp 45) rfl w1.heap.size 0 (UL b).toArray rfl rfl L1.out (E2.out _) (UL_one _) ?_; refine wpLG (fun wx => Hid (URow wx w1.heap.size 0 (dg b) ∧ w1.heap.size < wx.heap.size ∧ w.heap.size ≤ w1.heap.size ∧ Below w.heap.size w wx)) (Lib.hid ⟨urow_laid (row_zero w1), by rw [size_setCells]; exact size_new _ _, I.out.size, below_setCells (I.out.trans ((below_new w1 _).mono I.out.size)) I.out.size 0 (UL b)⟩) ?_; intro w2 hJ; clear I L1))
  rw [put_none]
  go_cut [7] (fun u wx => ∃ c : Nat, u = .pointer (some ⟨c, 0, none⟩) ∧ Hid (M2 w wx w1.heap.size c b r ∧ w1.heap.size ≠ c))
  case first =>
    rename_i JJ QQ HRJ HMK
    have U80 := Tryz.underlying80
    have I80 : (Tryz.prog.info? 80).map (·.size) = some (UL b).length := E1.out b
    have O1 : ∀ v ∈ UL b, v.oneCell' = true := fun v hv => by obtain ⟨i, _, rfl⟩ := List.mem_map.1 hv; rfl
    have l70 : (UL b).length = 70 := UL_len b
    have I81 : (Tryz.prog.info? 80).map (·.size) = some (UL r).length := E1.out r
    have O2 : ∀ v, v ∈ UL r → v.oneCell' = true := fun v hv => by obtain ⟨i, _, rfl⟩ := List.mem_map.1 hv; rfl
    have l71 : (UL r).length = 70 := UL_len r
    have I82 : (Tryz.prog.info? 80).map (·.size) = some (UL r).toArray.size := E2.out r
    have D0 : Hid (Below w2.heap.size w2 w2.drew) := Lib.hid (BdN (Below.refl _ _) 1)
    have DA : Hid (Below w2.heap.size w2 (w2.alloc (Obj.cells Tryz.zeroCells80 80)).drew) := Lib.hid (BdN (below_new _ _) 1)
    have LA : Hid (w2.heap.size < (w2.alloc (Obj.cells Tryz.zeroCells80 80)).drew.heap.size) := Lib.hid (size_new w2 _)
    have RA : Hid (URow (w2.alloc (Obj.cells Tryz.zeroCells80 80)).drew w2.heap.size 0 (dg 0)) := Lib.hid (row_zero w2)
    have KK : Hid (∀ wx : World, Below w2.heap.size w2 wx → wx.rangeAt w1.heap.size 0 (UL b)) := Lib.hid fun wx G => range_below hJ.out.1.range G hJ.out.2.1
    go_region_held3 (fun w' => w'.rangeAt w1.heap.size 0 (UL b)) (first
      | with_reducible exact KK.out _ D0.out
      | with_reducible exact KK.out _ DA.out
      | with_reducible exact KK.out _ G7.out
      | with_reducible exact KK.out _ (G7.out.new G7.out.size)
      | with_reducible exact KK.out _ G8.out
      | with_reducible exact KK.out _ (G8.out.new G8.out.size)
      | with_reducible exact range_lay (KK.out _ (G8.out.new G8.out.size)) (Nat.ne_of_lt (Nat.lt_of_lt_of_le hJ.out.2.1 G8.out.size))
      | with_reducible exact range_lay (KK.out _ G8.out) (Nat.ne_of_lt (Nat.lt_of_lt_of_le hJ.out.2.1 G7.out.size))
      | with_reducible exact range_lay (KK.out _ G8.out) (Nat.ne_of_lt hJ.out.2.1)) (first
      | (go_at_call 48; refine (U1.out _).mono ?_; rintro e w7 ⟨rfl, hb7⟩; have G7 : Hid (Below w2.heap.size w2 w7) := (by first | with_reducible exact Lib.hid (DA.out.trans (hb7.mono (Nat.le_of_lt LA.out))) | exact Lib.hid (D0.out.trans (hb7.mono (Nat.le_refl _)))); replace hb7 := Lib.hid hb7)
      | (go_at_call 50; refine (CR.out _).mono ?_; rintro e w8 ⟨rfl, hb8⟩; have G8 : Hid (Below w2.heap.size w2 w8) := (by first | exact Lib.hid (G7.out.trans (hb8.mono G7.out.size)) | exact Lib.hid ((G7.out.new G7.out.size).trans (hb8.mono (Nat.le_trans G7.out.size (Nat.le_of_lt (size_new _ _)))))); (first | (have T2 : w8.there w2.heap.size 0 (UL r).toArray.size := (by with_reducible exact there_row ((RA.out.below hb7.out LA.out).below hb8 (Nat.lt_of_lt_of_le LA.out hb7.out.size)))) | (have T7 : w8.there w7.heap.size 0 (UL r).toArray.size := (by with_reducible exact there_row ((row_zero w7).below hb8 (size_new _ _)))) | (have T8 : (w8.alloc (Obj.cells Tryz.zeroCells80 80)).there w8.heap.size 0 (UL r).toArray.size := there_row (row_zero w8))); replace hb8 := Lib.hid hb8))
    · refine HMK _ _ (Met.intro (HRJ _ _ ?_))
      have FF := M2.mk3 hJ.out.1 hJ.out.2.1 hJ.out.2.2.1 hJ.out.2.2.2 (G8.out.new G8.out.size) (row_zero w8) (size_new _ _) G8.out.size
      (repeat apply Exists.intro)
      exact ⟨⟨_, rfl, Lib.hid ⟨FF.1.lay FF.2 r, FF.2⟩⟩, rfl⟩
    · refine HMK _ _ (Met.intro (HRJ _ _ ?_))
      have FF := M2.mk3 hJ.out.1 hJ.out.2.1 hJ.out.2.2.1 hJ.out.2.2.2 G8.out ((row_zero w7).below hb8.out (size_new _ _)) (Nat.lt_of_lt_of_le (size_new _ _) hb8.out.size) G7.out.size
      (repeat apply Exists.intro)
      exact ⟨⟨_, rfl, Lib.hid ⟨FF.1.lay FF.2 r, FF.2⟩⟩, rfl⟩
    · refine HMK _ _ (Met.intro (HRJ _ _ ?_))
      have FF := M2.mk3 hJ.out.1 hJ.out.2.1 hJ.out.2.2.1 hJ.out.2.2.2 G8.out ((RA.out.below hb7.out LA.out).below hb8.out (Nat.lt_of_lt_of_le LA.out hb7.out.size)) (Nat.lt_of_lt_of_le (Nat.lt_of_lt_of_le LA.out hb7.out.size) hb8.out.size) (Nat.le_refl _)
      (repeat apply Exists.intro)
      exact ⟨⟨_, rfl, Lib.hid ⟨FF.1.lay FF.2 r, FF.2⟩⟩, rfl⟩
  case rest =>
    obtain ⟨c, rfl, hM⟩ := hcut
    clear hJ CR U1
    go_upto_region 9 with fail
    refine wp_gen' (fun wx => Hid (M2 w wx w1.heap.size c b r ∧ URow wx wc.heap.size 0 (dg 0) ∧ wc.heap.size < wx.heap.size)) (Lib.hid ⟨hM.out.1.below (below_new _ _), row_zero wc, size_new _ _⟩) ?_
    intro w3 hN
    have NE := Lib.hid hM.out.2
    clear hM
    have lr : r < 2 ^ (32 * RC) := Nat.lt_trans HB.out.1 (lt_half HB.out.2.2)
    by_cases hs : s1 = s2
    · subst hs
      have q : (s1 == s1) = true := beq_self_eq_true s1
      have CD := Lib.hid (fun w => c168 r w lr)
      have HI := Lib.hid (show r = N0 from (HN0.out.trans (if_pos (.inl rfl))).symm)
      clear HN0
      clear lr
      go_wp2_with (first
        | (refine wpList_load_mid rfl 80 (.tmp 7) rfl c 0 rfl (UL r) _ hN.out.1.rc.range Tryz.underlying80 rfl (E1.out _) ?_)
        | (go_at_call 54; refine (CD.out _).mono ?_; rintro e w5 ⟨⟨z, rfl, hr, hp⟩, hb5⟩; have K := Lib.hid (hN.out.1.l.trans (hb5.mono hN.out.1.l.size)); have HR := Lib.hid (And.intro hr hp); clear hr hp hb5 CD)
        | (go_at_call 49; refine (S2.out _).mono ?_; rintro e w' ⟨rfl, rfl⟩)
        | (go_at_call 55; refine (CS.out _ _ HR.out.1 HR.out.2 _).mono ?_; rintro e w' ⟨⟨r', rfl, H'⟩, rfl⟩))
      go_ret
      exact ⟨⟨_, rfl, H'.out.1, H'.out.2.trans (by rw [HI.out])⟩, K.out⟩
    · have q : (s1 == s2) = false := beq_eq_false_iff_ne.2 hs
      have C51 := Lib.hid (fun w => c167 r 0 w lr (Nat.two_pow_pos _))
      by_cases hz : r = 0
      · subst hz
        have e0 : cmpN 0 0 = 0 := rfl
        rw [e0] at C51
        have CD := Lib.hid (fun w => c168 0 w lr)
        have HI := Lib.hid (show 0 = N0 from (HN0.out.trans (if_pos (.inr rfl))).symm)
        clear HN0
        clear lr hs
        go_wp2_with (first
          | (refine wpList_load_g rfl 80 (.tmp 7) rfl c 0 rfl (UL 0) _ hN.out.1.rc.range Tryz.underlying80 rfl (E1.out _) ?_)
          | (refine wpList_load_g rfl 80 (.tmp 8) rfl wc.heap.size 0 rfl (UL 0) _ hN.out.2.1.range Tryz.underlying80 rfl (E1.out _) ?_)
          | (go_at_call 51; refine (C51.out _).mono ?_; rintro e w4 ⟨rfl, hb4⟩; replace hN := Lib.hid (And.intro (hN.out.1.below hb4) True.intro); clear hb4)
          | (refine wpList_load_mid rfl 80 (.tmp 7) rfl c 0 rfl (UL 0) _ hN.out.1.rc.range Tryz.underlying80 rfl (E1.out _) ?_)
          | (go_at_call 54; refine (CD.out _).mono ?_; rintro e w5 ⟨⟨z, rfl, hr, hp⟩, hb5⟩; have K := Lib.hid (hN.out.1.l.trans (hb5.mono hN.out.1.l.size)); have HR := Lib.hid (And.intro hr hp); clear hr hp hb5 CD)
          | (go_at_call 49; refine (S2.out _).mono ?_; rintro e w' ⟨rfl, rfl⟩)
          | (go_at_call 55; refine (CS.out _ _ HR.out.1 HR.out.2 _).mono ?_; rintro e w' ⟨⟨r', rfl, H'⟩, rfl⟩))
        go_ret
        exact ⟨⟨_, rfl, H'.out.1, H'.out.2.trans (by rw [HI.out])⟩, K.out⟩
      · have e0 : cmpN r 0 = 1 := if_pos (Nat.pos_of_ne_zero hz)
        rw [e0] at C51
        have CD := Lib.hid (fun w => c168 (b - r) w (Nat.lt_of_le_of_lt (Nat.sub_le _ _) (lt_half HB.out.2.2)))
        have CL := Lib.hid (fun w => c169 b r w (Nat.le_of_lt HB.out.1))
        have HI := Lib.hid (show b - r = N0 from (HN0.out.trans (if_neg (fun e => e.elim hs hz))).symm)
        clear HN0
        clear lr hs hz
        go_wp2_with (first
          | (refine wpList_load_g rfl 80 (.tmp 7) rfl c 0 rfl (UL r) _ hN.out.1.rc.range Tryz.underlying80 rfl (E1.out _) ?_)
          | (refine wpList_load_g rfl 80 (.tmp 8) rfl wc.heap.size 0 rfl (UL 0) _ hN.out.2.1.range Tryz.underlying80 rfl (E1.out _) ?_)
          | (go_at_call 51; refine (C51.out _).mono ?_; rintro e w4 ⟨rfl, hb4⟩; replace hN := Lib.hid (And.intro (hN.out.1.below hb4) True.intro); clear hb4)
          | (refine wpList_load_mid rfl 80 (.tmp 6) rfl w1.heap.size 0 rfl (UL b) _ hN.out.1.rb.range Tryz.underlying80 rfl (E1.out _) ?_)
          | (go_at_call 52; refine (CL.out _).mono ?_; rintro e w6 ⟨rfl, hb6⟩; replace hN := Lib.hid (And.intro (hN.out.1.below hb6) True.intro); clear hb6)
          | (refine wpList_store_mid rfl 80 (.tmp 7) (.tmp 60) rfl c 0 (UL (b - r)).toArray rfl rfl (there_row hN.out.1.rc) (E2.out _) (UL_one _) ?_; refine wpLG (fun wx => Hid (M2 w wx w1.heap.size c b (b - r) ∧ True)) (Lib.hid ⟨hN.out.1.lay NE.out (b - r), trivial⟩) ?_; clear hN; intro w7 hN)
          | (refine wpList_load_mid rfl 80 (.tmp 7) rfl c 0 rfl (UL r) _ hN.out.1.rc.range Tryz.underlying80 rfl (E1.out _) ?_)
          | (refine wpList_load_mid rfl 80 (.tmp 7) rfl c 0 rfl (UL (b - r)) _ hN.out.1.rc.range Tryz.underlying80 rfl (E1.out _) ?_)
          | (go_at_call 54; refine (CD.out _).mono ?_; rintro e w5 ⟨⟨z, rfl, hr, hp⟩, hb5⟩; have K := Lib.hid (hN.out.1.l.trans (hb5.mono hN.out.1.l.size)); have HR := Lib.hid (And.intro hr hp); clear hr hp hb5 CD)
          | (go_at_call 49; refine (S2.out _).mono ?_; rintro e w' ⟨rfl, rfl⟩)
          | (go_at_call 55; refine (CS.out _ _ HR.out.1 HR.out.2 _).mono ?_; rintro e w' ⟨⟨r', rfl, H'⟩, rfl⟩))
        go_ret
        exact ⟨⟨_, rfl, H'.out.1, H'.out.2.trans (by rw [HI.out])⟩, K.out⟩
end Go.Proofs.YthohhepoddnbnaaGreatDoor
