/- The walk of StyleTells, awake given as a hypothesis on the world. -/
import Derived.Test.YtphoggimeaejnaaGreatDoorStD
import Derived.Test.YtphoggimeaejnaaGreatDoorStE
namespace Go.Proofs.YtphoggimeaejnaaGreatDoor
open Go.RowKit Fl

/-- a block with a look, in a world behind w -/
structure RI (n : Nat) (l : List Value) (w wx : World) : Prop where
  r : wx.rangeAt n 0 l
  b : Below w.heap.size w wx
  z : n < wx.heap.size
theorem RI.below {n : Nat} {l : List Value} {w wx wy : World} (h : RI n l w wx) (hz : w.heap.size ≤ wx.heap.size) (hb : Below wx.heap.size wx wy) : RI n l w wy :=
  ⟨range_below h.r hb h.z, h.b.trans (hb.mono hz), Nat.lt_of_lt_of_le h.z hb.size⟩
theorem ri_new (g : Nat → Int) (f : Nat → Nat) (w : World) : RI w.heap.size (lkC g f) w (w.alloc (.cells (lkC g f).toArray 31)) :=
  ⟨range_new w (lkC g f) 31, (Below.refl _ _).alloc (Nat.le_refl _) _, by simp⟩
/-- a look that is laid into new memory -/
theorem lay_new (g : Nat → Int) (f : Nat → Nat) (w : World) : (w.alloc (.cells Z54 31)).there w.heap.size 0 (lkC g f).toArray.size ∧ ((w.alloc (.cells Z54 31)).setCells w.heap.size 0 (lkC g f).toArray.toList).rangeAt w.heap.size 0 (lkC g f) ∧
    Below w.heap.size w ((w.alloc (.cells Z54 31)).setCells w.heap.size 0 (lkC g f).toArray.toList) ∧ w.heap.size < ((w.alloc (.cells Z54 31)).setCells w.heap.size 0 (lkC g f).toArray.toList).heap.size := by
  have T := there_new w Z54 31 54 rfl
  have B := below_setCells ((Below.refl w.heap.size w).alloc (Nat.le_refl _) (.cells Z54 31)) (Nat.le_refl _) 0 (lkC g f).toArray.toList
  refine ⟨T, World.rangeAt_setCells_same _ w.heap.size 0 (lkC g f) T, B, ?_⟩
  have h1 : (w.alloc (.cells Z54 31)).heap.size = w.heap.size + 1 := by simp
  have h2 := below_setCells (Below.refl 0 (w.alloc (.cells Z54 31))) (Nat.zero_le w.heap.size) 0 (lkC g f).toArray.toList
  have := h2.size
  omega
theorem z54 : Z54 = #[.int .i64 0, .float .f64 0, .float .f64 0, .float .f64 0, .int .i64 0, .float .f64 0, .int .i64 0, .float .f64 0, .int .i64 0, .float .f64 0, .int .i64 0, .float .f64 0, .int .i64 0, .float .f64 0, .int .i64 0, .float .f64 0, .int .i64 0, .float .f64 0, .int .i64 0, .float .f64 0, .int .i64 0, .float .f64 0, .int .i64 0, .float .f64 0, .int .i64 0, .float .f64 0, .int .i64 0, .float .f64 0, .int .i64 0, .float .f64 0, .int .i64 0, .float .f64 0, .float .f64 0, .float .f64 0, .int .i64 0, .float .f64 0, .int .i64 0, .float .f64 0, .float .f64 0, .float .f64 0, .float .f64 0, .float .f64 0, .float .f64 0, .float .f64 0, .float .f64 0, .float .f64 0, .float .f64 0, .float .f64 0, .float .f64 0, .float .f64 0, .float .f64 0, .float .f64 0, .float .f64 0, .float .f64 0] := by kernel_rfl
/-- a look that is laid into new memory -/
theorem lay_lit (g : Nat → Int) (f : Nat → Nat) (w : World) : (w.alloc (.cells #[.int .i64 0, .float .f64 0, .float .f64 0, .float .f64 0, .int .i64 0, .float .f64 0, .int .i64 0, .float .f64 0, .int .i64 0, .float .f64 0, .int .i64 0, .float .f64 0, .int .i64 0, .float .f64 0, .int .i64 0, .float .f64 0, .int .i64 0, .float .f64 0, .int .i64 0, .float .f64 0, .int .i64 0, .float .f64 0, .int .i64 0, .float .f64 0, .int .i64 0, .float .f64 0, .int .i64 0, .float .f64 0, .int .i64 0, .float .f64 0, .int .i64 0, .float .f64 0, .float .f64 0, .float .f64 0, .int .i64 0, .float .f64 0, .int .i64 0, .float .f64 0, .float .f64 0, .float .f64 0, .float .f64 0, .float .f64 0, .float .f64 0, .float .f64 0, .float .f64 0, .float .f64 0, .float .f64 0, .float .f64 0, .float .f64 0, .float .f64 0, .float .f64 0, .float .f64 0, .float .f64 0, .float .f64 0] 31)).there w.heap.size 0 (lkC g f).toArray.size := by
  have := (lay_new g f w).1
  rw [z54] at this
  exact this
theorem lay_ri {n : Nat} {l : List Value} {W w : World} (I : RI n l W w) (g : Nat → Int) (f : Nat → Nat) : RI n l W ((w.alloc (.cells #[.int .i64 0, .float .f64 0, .float .f64 0, .float .f64 0, .int .i64 0, .float .f64 0, .int .i64 0, .float .f64 0, .int .i64 0, .float .f64 0, .int .i64 0, .float .f64 0, .int .i64 0, .float .f64 0, .int .i64 0, .float .f64 0, .int .i64 0, .float .f64 0, .int .i64 0, .float .f64 0, .int .i64 0, .float .f64 0, .int .i64 0, .float .f64 0, .int .i64 0, .float .f64 0, .int .i64 0, .float .f64 0, .int .i64 0, .float .f64 0, .int .i64 0, .float .f64 0, .float .f64 0, .float .f64 0, .int .i64 0, .float .f64 0, .int .i64 0, .float .f64 0, .float .f64 0, .float .f64 0, .float .f64 0, .float .f64 0, .float .f64 0, .float .f64 0, .float .f64 0, .float .f64 0, .float .f64 0, .float .f64 0, .float .f64 0, .float .f64 0, .float .f64 0, .float .f64 0, .float .f64 0, .float .f64 0] 31)).setCells w.heap.size 0 (lkC g f).toArray.toList) ∧ RI w.heap.size (lkC g f) W ((w.alloc (.cells #[.int .i64 0, .float .f64 0, .float .f64 0, .float .f64 0, .int .i64 0, .float .f64 0, .int .i64 0, .float .f64 0, .int .i64 0, .float .f64 0, .int .i64 0, .float .f64 0, .int .i64 0, .float .f64 0, .int .i64 0, .float .f64 0, .int .i64 0, .float .f64 0, .int .i64 0, .float .f64 0, .int .i64 0, .float .f64 0, .int .i64 0, .float .f64 0, .int .i64 0, .float .f64 0, .int .i64 0, .float .f64 0, .int .i64 0, .float .f64 0, .int .i64 0, .float .f64 0, .float .f64 0, .float .f64 0, .int .i64 0, .float .f64 0, .int .i64 0, .float .f64 0, .float .f64 0, .float .f64 0, .float .f64 0, .float .f64 0, .float .f64 0, .float .f64 0, .float .f64 0, .float .f64 0, .float .f64 0, .float .f64 0, .float .f64 0, .float .f64 0, .float .f64 0, .float .f64 0, .float .f64 0, .float .f64 0] 31)).setCells w.heap.size 0 (lkC g f).toArray.toList) := by
  obtain ⟨_, h2, h3, h4⟩ := lay_new g f w
  rw [z54] at h2 h3 h4
  exact ⟨I.below I.b.size h3, h2, I.b.trans (h3.mono I.b.size), h4⟩
theorem wpG {P : Program} {c : Code} {Q : Exit → Act → World → Prop} {a : Act} {w : World} (R : World → Prop) (h : R w) (k : ∀ wx, R wx → c.wp P Q a wx) : c.wp P Q a w := k w h
theorem wpLG {P : Program} {ops : Array Oper} {rest : List Oper} {Q : Exit → Act → World → Prop} {a : Act} {w : World} (R : World → Prop) (h : R w) (k : ∀ wx, R wx → wpList P ops Q rest a wx) : wpList P ops Q rest a w := k w h
set_option maxRecDepth 100000 in
set_option maxHeartbeats 1000000 in
theorem wTtt (W : World) (g : Nat → Int) (f : Nat → Nat) (s : ByteArray) (x v : Nat) (G : Nat → Int) (p : Nat → Int) (I : Hid (RI W.heap.size (lkC g f) W (W.alloc (.cells (lkC g f).toArray 31))))
    (HA : Hid (∀ w', Below W.heap.size W w' → Calls Tryz.prog 6 #[] w' fun e w'' => e = .returned (.bool true) ∧ Below w'.heap.size w' w''))
    (h7 : Hid (∀ w, Calls Tryz.prog 7 #[.agg (lkC g f).toArray, .string s] w fun e w' => e = .returned (.tuple #[.float .f64 v, .int .i64 0]) ∧ Below w.heap.size w w'))
    (h8 : Hid (∀ w, Calls Tryz.prog 8 #[.agg (lkC g f).toArray, .string s] w fun e w' => e = .returned (.tuple #[.float .f64 v, .bool true]) ∧ Below w.heap.size w w'))
    (h9 : Hid (∀ w, Calls Tryz.prog 9 #[.float .f64 v, .float .f64 v] w fun e w' => e = .returned (.bool true) ∧ w = w'))
    (H10 : Hid (∀ w, Calls Tryz.prog 10 #[.agg (lkC g f).toArray, .string s, .float .f64 x] w fun e w' => (∃ f', e = .returned (.tuple #[.agg (lkC G f').toArray, .int .i64 0]) ∧ (∀ i, pl (f' i) = p i) ∧ ∀ i, U (f' i)) ∧ Below w.heap.size w w'))
    (H11 : Hid (∀ w, Calls Tryz.prog 11 #[.agg (lkC g f).toArray, .string s, .float .f64 x] w fun e w' => (∃ f', e = .returned (.tuple #[.agg (lkC G f').toArray, .bool true]) ∧ (∀ i, pl (f' i) = p i) ∧ ∀ i, U (f' i)) ∧ Below w.heap.size w w')) :
    Calls Tryz.prog 3 #[.agg (lkC g f).toArray, .string s, .float .f64 x] W fun e w' => e = .returned (.bool true) ∧ Below W.heap.size W w' := by
  have SZ := Lib.hid size31
  go_enter Tryz.func3, Tryz.ntmps3
  go_upto_region 1 with fail
  refine wpG (fun wx => RI W.heap.size (lkC g f) W wx) I.out ?_
  intro w1 hI
  replace I := Lib.hid hI
  clear hI
  go_upto_region 2 with (first
    | (go_at_call 6; refine (HA.out _ I.out.b).mono ?_; rintro e w2 ⟨rfl, hb⟩; replace I := Lib.hid (I.out.below (I.out.b.size) hb); clear hb HA))
  go_upto_region 3 with (first
    | (go_at_call 7; refine (h7.out _).mono ?_; rintro e w3 ⟨rfl, hb⟩; replace I := Lib.hid (I.out.below (I.out.b.size) hb); clear hb h7)
    | (refine wpList_load_mid rfl 31 (.tmp 3) rfl W.heap.size 0 rfl (lkC g f) _ I.out.r Tryz.underlying31 rfl SZ.out ?_))
  go_upto_region 4 with (first
    | (go_at_call 8; refine (h8.out _).mono ?_; rintro e w4 ⟨rfl, hb⟩; replace I := Lib.hid (I.out.below (I.out.b.size) hb); clear hb h8)
    | (refine wpList_load_mid rfl 31 (.tmp 3) rfl W.heap.size 0 rfl (lkC g f) _ I.out.r Tryz.underlying31 rfl SZ.out ?_))
  go_upto_region 5 with (first
    | (go_at_call 9; refine (h9.out _).mono ?_; rintro e w5 ⟨rfl, rfl⟩; clear h9))
  go_upto_region 6 with (first
    | (go_at_call 10; refine (H10.out _).mono ?_; rintro e w6 ⟨⟨f1, rfl, hp1, hu1⟩, hb⟩; replace I := Lib.hid (I.out.below (I.out.b.size) hb); clear hb H10; have P1 := Lib.hid (And.intro hp1 hu1); clear hp1 hu1; have L1 := Lib.hid (lay_lit G f1 w6))
    | (refine wpList_load_mid rfl 31 (.tmp 3) rfl W.heap.size 0 rfl (lkC g f) _ I.out.r Tryz.underlying31 rfl SZ.out ?_)
    | (refine wpList_store_mid rfl 31 (.tmp 13) (.tmp 52) rfl w6.heap.size 0 (lkC G f1).toArray rfl rfl L1.out SZ.out (lk_one _ _) ?_; refine wpLG (fun wx => RI W.heap.size (lkC g f) W wx ∧ RI w6.heap.size (lkC G f1) W wx) (lay_ri I.out G f1) ?_; intro w7 hI; replace I := Lib.hid hI.1; have J := Lib.hid hI.2; clear hI))
  clear L1
  generalize w6.heap.size = b6 at *
  clear w6
  go_upto_region 7 with (first
    | (go_at_call 11; refine (H11.out _).mono ?_; rintro e w8 ⟨⟨f2, rfl, hp2, hu2⟩, hb⟩; replace J := Lib.hid (J.out.below (J.out.b.size) hb); clear I hb H11; have P2 := Lib.hid (And.intro hp2 hu2); clear hp2 hu2; have L1 := Lib.hid (lay_lit G f2 w8))
    | (refine wpList_load_mid rfl 31 (.tmp 3) rfl W.heap.size 0 rfl (lkC g f) _ I.out.r Tryz.underlying31 rfl SZ.out ?_)
    | (refine wpList_store_mid rfl 31 (.tmp 15) (.tmp 59) rfl w8.heap.size 0 (lkC G f2).toArray rfl rfl L1.out SZ.out (lk_one _ _) ?_; refine wpLG (fun wx => RI b6 (lkC G f1) W wx ∧ RI w8.heap.size (lkC G f2) W wx) (lay_ri J.out G f2) ?_; intro w9 hI; replace J := Lib.hid hI.1; have J2 := Lib.hid hI.2; clear hI))
  clear L1
  generalize w8.heap.size = b8 at *
  clear w8
  have H12 : Hid (∀ w, Calls Tryz.prog 12 #[.agg (lkC G f1).toArray, .agg (lkC G f2).toArray] w fun e w' => e = .returned (.bool true) ∧ Below w.heap.size w w') := Lib.hid fun w => c12 G f1 f2 w fun i => ⟨P1.out.2 i, P2.out.2 i, (P1.out.1 i).trans (P2.out.1 i).symm⟩
  go_upto_region 8 with (first
    | (go_at_call 12; refine (H12.out _).mono ?_; rintro e w10 ⟨rfl, hb⟩; replace J := Lib.hid (J.out.below (J.out.b.size) hb); clear hb H12)
    | (refine wpList_load_mid rfl 31 (.tmp 13) rfl b6 0 rfl (lkC G f1) _ J.out.r Tryz.underlying31 rfl SZ.out ?_)
    | (refine wpList_load_mid rfl 31 (.tmp 15) rfl b8 0 rfl (lkC G f2) _ J2.out.r Tryz.underlying31 rfl SZ.out ?_))
  go_wp2
  go_ret
  exact ⟨rfl, J.out.b⟩
set_option maxRecDepth 100000 in
set_option maxHeartbeats 1000000 in
theorem wTtf (W : World) (g : Nat → Int) (f : Nat → Nat) (s : ByteArray) (x v : Nat) (G : Nat → Int) (p : Nat → Int) (I : Hid (RI W.heap.size (lkC g f) W (W.alloc (.cells (lkC g f).toArray 31))))
    (HA : Hid (∀ w', Below W.heap.size W w' → Calls Tryz.prog 6 #[] w' fun e w'' => e = .returned (.bool true) ∧ Below w'.heap.size w' w''))
    (h7 : Hid (∀ w, Calls Tryz.prog 7 #[.agg (lkC g f).toArray, .string s] w fun e w' => e = .returned (.tuple #[.float .f64 v, .int .i64 0]) ∧ Below w.heap.size w w'))
    (h8 : Hid (∀ w, Calls Tryz.prog 8 #[.agg (lkC g f).toArray, .string s] w fun e w' => e = .returned (.tuple #[.float .f64 v, .bool true]) ∧ Below w.heap.size w w'))
    (h9 : Hid (∀ w, Calls Tryz.prog 9 #[.float .f64 v, .float .f64 v] w fun e w' => e = .returned (.bool true) ∧ w = w'))
    (H10 : Hid (∀ w, Calls Tryz.prog 10 #[.agg (lkC g f).toArray, .string s, .float .f64 x] w fun e w' => (∃ f', e = .returned (.tuple #[.agg (lkC G f').toArray, .int .i64 1]) ∧ (∀ i, pl (f' i) = p i) ∧ ∀ i, U (f' i)) ∧ Below w.heap.size w w'))
    (H11 : Hid (∀ w, Calls Tryz.prog 11 #[.agg (lkC g f).toArray, .string s, .float .f64 x] w fun e w' => (∃ f', e = .returned (.tuple #[.agg (lkC G f').toArray, .bool false]) ∧ (∀ i, pl (f' i) = p i) ∧ ∀ i, U (f' i)) ∧ Below w.heap.size w w')) :
    Calls Tryz.prog 3 #[.agg (lkC g f).toArray, .string s, .float .f64 x] W fun e w' => e = .returned (.bool true) ∧ Below W.heap.size W w' := by
  have SZ := Lib.hid size31
  go_enter Tryz.func3, Tryz.ntmps3
  go_upto_region 1 with fail
  refine wpG (fun wx => RI W.heap.size (lkC g f) W wx) I.out ?_
  intro w1 hI
  replace I := Lib.hid hI
  clear hI
  go_upto_region 2 with (first
    | (go_at_call 6; refine (HA.out _ I.out.b).mono ?_; rintro e w2 ⟨rfl, hb⟩; replace I := Lib.hid (I.out.below (I.out.b.size) hb); clear hb HA))
  go_upto_region 3 with (first
    | (go_at_call 7; refine (h7.out _).mono ?_; rintro e w3 ⟨rfl, hb⟩; replace I := Lib.hid (I.out.below (I.out.b.size) hb); clear hb h7)
    | (refine wpList_load_mid rfl 31 (.tmp 3) rfl W.heap.size 0 rfl (lkC g f) _ I.out.r Tryz.underlying31 rfl SZ.out ?_))
  go_upto_region 4 with (first
    | (go_at_call 8; refine (h8.out _).mono ?_; rintro e w4 ⟨rfl, hb⟩; replace I := Lib.hid (I.out.below (I.out.b.size) hb); clear hb h8)
    | (refine wpList_load_mid rfl 31 (.tmp 3) rfl W.heap.size 0 rfl (lkC g f) _ I.out.r Tryz.underlying31 rfl SZ.out ?_))
  go_upto_region 5 with (first
    | (go_at_call 9; refine (h9.out _).mono ?_; rintro e w5 ⟨rfl, rfl⟩; clear h9))
  go_upto_region 6 with (first
    | (go_at_call 10; refine (H10.out _).mono ?_; rintro e w6 ⟨⟨f1, rfl, hp1, hu1⟩, hb⟩; replace I := Lib.hid (I.out.below (I.out.b.size) hb); clear hb H10; have P1 := Lib.hid (And.intro hp1 hu1); clear hp1 hu1; have L1 := Lib.hid (lay_lit G f1 w6))
    | (refine wpList_load_mid rfl 31 (.tmp 3) rfl W.heap.size 0 rfl (lkC g f) _ I.out.r Tryz.underlying31 rfl SZ.out ?_)
    | (refine wpList_store_mid rfl 31 (.tmp 13) (.tmp 52) rfl w6.heap.size 0 (lkC G f1).toArray rfl rfl L1.out SZ.out (lk_one _ _) ?_; refine wpLG (fun wx => RI W.heap.size (lkC g f) W wx ∧ RI w6.heap.size (lkC G f1) W wx) (lay_ri I.out G f1) ?_; intro w7 hI; replace I := Lib.hid hI.1; have J := Lib.hid hI.2; clear hI))
  clear L1
  generalize w6.heap.size = b6 at *
  clear w6
  go_upto_region 7 with (first
    | (go_at_call 11; refine (H11.out _).mono ?_; rintro e w8 ⟨⟨f2, rfl, hp2, hu2⟩, hb⟩; replace J := Lib.hid (J.out.below (J.out.b.size) hb); clear I hb H11; have P2 := Lib.hid (And.intro hp2 hu2); clear hp2 hu2; have L1 := Lib.hid (lay_lit G f2 w8))
    | (refine wpList_load_mid rfl 31 (.tmp 3) rfl W.heap.size 0 rfl (lkC g f) _ I.out.r Tryz.underlying31 rfl SZ.out ?_)
    | (refine wpList_store_mid rfl 31 (.tmp 15) (.tmp 59) rfl w8.heap.size 0 (lkC G f2).toArray rfl rfl L1.out SZ.out (lk_one _ _) ?_; refine wpLG (fun wx => RI b6 (lkC G f1) W wx ∧ RI w8.heap.size (lkC G f2) W wx) (lay_ri J.out G f2) ?_; intro w9 hI; replace J := Lib.hid hI.1; have J2 := Lib.hid hI.2; clear hI))
  clear L1
  generalize w8.heap.size = b8 at *
  clear w8
  have H12 : Hid (∀ w, Calls Tryz.prog 12 #[.agg (lkC G f1).toArray, .agg (lkC G f2).toArray] w fun e w' => e = .returned (.bool true) ∧ Below w.heap.size w w') := Lib.hid fun w => c12 G f1 f2 w fun i => ⟨P1.out.2 i, P2.out.2 i, (P1.out.1 i).trans (P2.out.1 i).symm⟩
  go_upto_region 8 with (first
    | (go_at_call 12; refine (H12.out _).mono ?_; rintro e w10 ⟨rfl, hb⟩; replace J := Lib.hid (J.out.below (J.out.b.size) hb); clear hb H12)
    | (refine wpList_load_mid rfl 31 (.tmp 13) rfl b6 0 rfl (lkC G f1) _ J.out.r Tryz.underlying31 rfl SZ.out ?_)
    | (refine wpList_load_mid rfl 31 (.tmp 15) rfl b8 0 rfl (lkC G f2) _ J2.out.r Tryz.underlying31 rfl SZ.out ?_))
  go_wp2
  go_ret
  exact ⟨rfl, J.out.b⟩
end Go.Proofs.YtphoggimeaejnaaGreatDoor
