/- A look with another number: with, Set (printed by gen_st.py). -/
import Derived.Test.YtphoggimeaejnaaGreatDoorStB
import Derived.Deep.Upon
import Derived.Deep.CutBlock
namespace Go.Proofs.YtphoggimeaejnaaGreatDoor
open Go.RowKit Fl

def RV (r : Nat) (p : Int) : Prop := U r ∧ pl r = p
def upd (f : Nat → Nat) (c r : Nat) : Nat → Nat := fun i => if i = c then r else f i
def updG (g : Nat → Int) (c : Nat) (r : Int) : Nat → Int := fun i => if i = c then r else g i
def setG (k : Nat) (g : Nat → Int) : Nat → Int := match k with
  | 5 => updG g 4 1
  | 6 => updG g 6 1
  | _ => g
def cellK (k : Nat) : Nat := match k with
  | 0 => 1
  | 1 => 2
  | 2 => 31
  | 3 => 32
  | 4 => 53
  | 5 => 3
  | _ => 5
theorem U_ONE : U 4607182418800017408 := by unfold U; decide
/-- the place of the number that is put -/
def setV (k x : Nat) : Int := match k with
  | 0 => maxP (pl 0) (pl (usedW (numW x)))
  | 1 => maxP (pl 0) (minP (pl (numW x)) (pl 4607182418800017408))
  | 2 => maxP (pl 0) (pl (numW x))
  | 3 => maxP (pl 0) (pl (numW x))
  | 4 => pl (numW x)
  | _ => pl (usedW (numW x))
def Z54 : Array Value := (lkC (fun _ => 0) (fun _ => 0)).toArray
theorem size31 : (Tryz.prog.info? 31).map (·.size) = some 54 := by kernel_rfl
theorem lk_one (g : Nat → Int) (f : Nat → Nat) : (lkC g f).toArray.all (·.oneCell') = true := by
  rw [List.all_toArray]; unfold lkC; simp [Value.oneCell']
theorem built31 : Tryz.prog.built 31 [] = some Z54 := by kernel_rfl
structure Prep (w W : World) (g : Nat → Int) (f : Nat → Nat) : Prop where
  B : Below w.heap.size w W
  R : W.rangeAt w.heap.size 0 (lkC g f)
  T1 : W.there w.heap.size 0 54
  T2 : W.there (w.heap.size + 1) 0 54
  Z : w.heap.size + 2 ≤ W.heap.size
theorem prep (w : World) (g : Nat → Int) (f : Nat → Nat) : Prep w ((w.alloc (.cells (lkC g f).toArray 31)).alloc (.cells Z54 31)) g f := by
  have B0 := (Below.refl (w.heap.size + 1) (w.alloc (.cells (lkC g f).toArray 31))).alloc (by simp) (.cells Z54 31)
  have T := there_new (w.alloc (.cells (lkC g f).toArray 31)) Z54 31 54 rfl
  rw [show (w.alloc (.cells (lkC g f).toArray 31)).heap.size = w.heap.size + 1 by simp] at T
  exact ⟨((Below.refl _ _).alloc (Nat.le_refl _) _).alloc (by simp) _, range_below (range_new w (lkC g f) 31) B0 (by omega), there_below (there_new w (lkC g f).toArray 31 54 rfl) B0 (by omega), T, by simp⟩
theorem Prep.below {w W W' : World} {g f} (h : Prep w W g f) (hb : Below W.heap.size W W') : Prep w W' g f :=
  have := h.Z
  ⟨h.B.trans (hb.mono (by omega)), range_below h.R hb (by omega), there_below h.T1 hb (by omega), there_below h.T2 hb (by omega), Nat.le_trans h.Z hb.size⟩
theorem range_set {W : World} {b c : Nat} {cs cs' : List Value} (h : W.rangeAt b 0 cs) (v : Value) (hc : c < cs.length) (e : cs.set c v = cs') : (W.setCell ⟨b, c, none⟩ v).rangeAt b 0 cs' := fun j u hj => by
  subst e
  rw [Nat.zero_add]
  have hcv := h c cs[c] (List.getElem?_eq_getElem hc)
  rw [Nat.zero_add] at hcv
  by_cases e : j = c
  · subst e
    rw [List.getElem?_set_self hc] at hj
    cases hj
    exact World.cell?_setCell_same W _ _ hcv
  · rw [List.getElem?_set_ne (by omega)] at hj
    rw [World.cell?_setCell_other W _ _ _ (by intro h; cases h; exact e rfl)]
    have := h j u hj
    rwa [Nat.zero_add] at this
theorem there_setB {W : World} {b o n : Nat} (h : W.there b o n) (p : Addr) (v : Value) : (W.setCell p v).there b o n := fun j hj => by
  obtain ⟨h1, h2⟩ := h j hj
  refine ⟨?_, (World.frozen?_setCell ..).trans h2⟩
  obtain ⟨u, hu⟩ := Option.isSome_iff_exists.1 h1
  obtain ⟨v', hv'⟩ := cell?_setCell_some (w := W) (p := p) (x := v) (q := ⟨b, o + j, none⟩) (v := u) hu
  rw [hv']; rfl
theorem Prep.set {w W : World} {g g' f f'} (h : Prep w W g f) (c : Nat) (v : Value) (hc : c < 54) (e : (lkC g f).set c v = lkC g' f') : Prep w (W.setCell ⟨w.heap.size, c, none⟩ v) g' f' :=
  ⟨h.B.setCell (Nat.le_refl _) v, range_set h.R v (by show c < 54; exact hc) e, there_setB h.T1 _ _, there_setB h.T2 _ _, by have := h.Z; simpa using this⟩
/-- what a function tells whose results lie in memory and in a slot -/
theorem ret_row2 (P : Program) {fn : Func} {p u : Tmp} {ty : TypeId} (h : fn.results = #[.cell p ty, .tmp u]) {tmps : Array Value} {b : Nat} (hp : tmps.getD p undef = .pointer (some ⟨b, 0, none⟩)) {x : Value} (hu2 : tmps.getD u undef = x) {W : World} (cs : List Value) {d : TypeDesc}
    (ht : W.there b 0 cs.length) (hu : P.underlying ty = some d) (hd : d.isRow = true) (hi : (P.info? ty).map (·.size) = some cs.length) : (results fn tmps).run P (W.setCells b 0 cs) = .ok (.tuple #[.agg cs.toArray, x]) (W.setCells b 0 cs) := by
  have hl := run_loadVar_mid (P := P) _ b 0 ty cs _ (World.rangeAt_setCells_same W b 0 cs ht) hu hd hi
  rw [results_cell_tmp h, hp, hu2]
  simp only [asAddr, Sem.run_pure, Result.andThen_ok, hl]
set_option maxRecDepth 100000 in
set_option maxHeartbeats 1000000 in
theorem c21_0 (s : ByteArray) (g : Nat → Int) (f : Nat → Nat) (x : Nat) (w : World) (hk : PK s 0) (hx : U x) : Calls Tryz.prog 21 #[.agg (lkC g f).toArray, .string s, .float .f64 x] w fun e w' => (∃ r, RV r (setV 0 x) ∧ e = .returned (.agg (lkC (setG 0 g) (upd f 1 r)).toArray)) ∧ Below w.heap.size w w' := by
  have n0 : (s.toList == [115, 105, 122, 101]) = true := hk.n0
  have n1 : (s.toList == [111, 112, 97, 99, 105, 116, 121]) = false := hk.n1
  have n2 : (s.toList == [103, 114, 111, 119]) = false := hk.n2
  have n3 : (s.toList == [115, 104, 114, 105, 110, 107]) = false := hk.n3
  have n4 : (s.toList == [108, 101, 118, 101, 108]) = false := hk.n4
  have n5 : (s.toList == [119, 105, 100, 116, 104]) = false := hk.n5
  have n6 : (s.toList == [104, 101, 105, 103, 104, 116]) = false := hk.n6
  clear hk
  have F := Lib.hid (prep w g f)
  have SZ := Lib.hid size31
  have h46 := Lib.hid fun w => c46 x w hx
  have uy := Lib.hid (U_numW hx)
  have h48 := Lib.hid fun w => c48 (numW x) w (U_numW hx)
  have uz := Lib.hid (U_usedW (U_numW hx))
  unfold setV
  clear hx
  generalize numW x = y at *
  generalize usedW y = z at *
  go_enter Tryz.func21, Tryz.ntmps21
  go_upto_region 1 with fail
  obtain ⟨W1, hW1⟩ : ∃ W1, W1 = (w.alloc (.cells (lkC g f).toArray 31)).alloc (.cells Z54 31) := ⟨_, rfl⟩
  rw [← hW1] at F
  show Code.wp _ _ _ _ ((w.alloc (.cells (lkC g f).toArray 31)).alloc (.cells Z54 31))
  rw [← hW1]
  clear hW1
  have s0 := fun v => store1 F.out.T1 (show 1 < 54 by decide) v
  have F2 : Hid (∀ v, Prep w (W1.setCell ⟨w.heap.size, 1, none⟩ (.float .f64 v)) g (upd f 1 v)) := Lib.hid fun v => F.out.set 1 (.float .f64 v) (by decide) rfl
  go_wp2_with (first
    | (go_at_call 46; refine (h46.out _).mono ?_; rintro e w2 ⟨rfl, rfl⟩)
    | (go_at_call 48; refine (h48.out _).mono ?_; rintro e w2 ⟨rfl, rfl⟩)
    | (go_at_call 47; refine (c84 0 _ _ U_0 uz.out).mono ?_; rintro e w2 ⟨⟨r, rfl, hr⟩, rfl⟩; replace hr := Lib.hid hr)
    | (refine wpList_load_mid rfl 31 (.tmp 3) rfl w.heap.size 0 rfl (lkC g (upd f 1 r)) _ (F2.out r).R Tryz.underlying31 rfl SZ.out ?_)
    | (refine wpList_store_mid rfl 31 (.tmp 6) (.tmp 45) rfl (w.heap.size + 1) 0 (lkC g (upd f 1 r)).toArray rfl rfl (F2.out r).T2 SZ.out (lk_one _ _) ?_))
  refine bodyPost_ret (ret_row Tryz.prog (p := 6) rfl rfl (lkC g (upd f 1 r)) (F2.out r).T2 Tryz.underlying31 rfl SZ.out) rfl ?_
  exact ⟨⟨r, hr.out, rfl⟩, below_setCells (F2.out r).B (by omega) 0 _⟩
set_option maxRecDepth 100000 in
set_option maxHeartbeats 1000000 in
theorem c21_1 (s : ByteArray) (g : Nat → Int) (f : Nat → Nat) (x : Nat) (w : World) (hk : PK s 1) (hx : U x) : Calls Tryz.prog 21 #[.agg (lkC g f).toArray, .string s, .float .f64 x] w fun e w' => (∃ r, RV r (setV 1 x) ∧ e = .returned (.agg (lkC (setG 1 g) (upd f 2 r)).toArray)) ∧ Below w.heap.size w w' := by
  have n0 : (s.toList == [115, 105, 122, 101]) = false := hk.n0
  have n1 : (s.toList == [111, 112, 97, 99, 105, 116, 121]) = true := hk.n1
  have n2 : (s.toList == [103, 114, 111, 119]) = false := hk.n2
  have n3 : (s.toList == [115, 104, 114, 105, 110, 107]) = false := hk.n3
  have n4 : (s.toList == [108, 101, 118, 101, 108]) = false := hk.n4
  have n5 : (s.toList == [119, 105, 100, 116, 104]) = false := hk.n5
  have n6 : (s.toList == [104, 101, 105, 103, 104, 116]) = false := hk.n6
  clear hk
  have F := Lib.hid (prep w g f)
  have SZ := Lib.hid size31
  have h46 := Lib.hid fun w => c46 x w hx
  have uy := Lib.hid (U_numW hx)
  unfold setV
  clear hx
  generalize numW x = y at *
  go_enter Tryz.func21, Tryz.ntmps21
  go_upto_region 1 with fail
  obtain ⟨W1, hW1⟩ : ∃ W1, W1 = (w.alloc (.cells (lkC g f).toArray 31)).alloc (.cells Z54 31) := ⟨_, rfl⟩
  rw [← hW1] at F
  show Code.wp _ _ _ _ ((w.alloc (.cells (lkC g f).toArray 31)).alloc (.cells Z54 31))
  rw [← hW1]
  clear hW1
  have s0 := fun v => store1 F.out.T1 (show 2 < 54 by decide) v
  have F2 : Hid (∀ v, Prep w (W1.setCell ⟨w.heap.size, 2, none⟩ (.float .f64 v)) g (upd f 2 v)) := Lib.hid fun v => F.out.set 2 (.float .f64 v) (by decide) rfl
  go_wp2_with (first
    | (go_at_call 46; refine (h46.out _).mono ?_; rintro e w2 ⟨rfl, rfl⟩)
    | (go_at_call 49; refine (c85 0 _ 4607182418800017408 _ U_0 uy.out U_ONE).mono ?_; rintro e w2 ⟨⟨r, rfl, hr⟩, rfl⟩; replace hr := Lib.hid hr)
    | (refine wpList_load_mid rfl 31 (.tmp 3) rfl w.heap.size 0 rfl (lkC g (upd f 2 r)) _ (F2.out r).R Tryz.underlying31 rfl SZ.out ?_)
    | (refine wpList_store_mid rfl 31 (.tmp 6) (.tmp 45) rfl (w.heap.size + 1) 0 (lkC g (upd f 2 r)).toArray rfl rfl (F2.out r).T2 SZ.out (lk_one _ _) ?_))
  refine bodyPost_ret (ret_row Tryz.prog (p := 6) rfl rfl (lkC g (upd f 2 r)) (F2.out r).T2 Tryz.underlying31 rfl SZ.out) rfl ?_
  exact ⟨⟨r, hr.out, rfl⟩, below_setCells (F2.out r).B (by omega) 0 _⟩
set_option maxRecDepth 100000 in
set_option maxHeartbeats 1000000 in
theorem c21_2 (s : ByteArray) (g : Nat → Int) (f : Nat → Nat) (x : Nat) (w : World) (hk : PK s 2) (hx : U x) : Calls Tryz.prog 21 #[.agg (lkC g f).toArray, .string s, .float .f64 x] w fun e w' => (∃ r, RV r (setV 2 x) ∧ e = .returned (.agg (lkC (setG 2 g) (upd f 31 r)).toArray)) ∧ Below w.heap.size w w' := by
  have n0 : (s.toList == [115, 105, 122, 101]) = false := hk.n0
  have n1 : (s.toList == [111, 112, 97, 99, 105, 116, 121]) = false := hk.n1
  have n2 : (s.toList == [103, 114, 111, 119]) = true := hk.n2
  have n3 : (s.toList == [115, 104, 114, 105, 110, 107]) = false := hk.n3
  have n4 : (s.toList == [108, 101, 118, 101, 108]) = false := hk.n4
  have n5 : (s.toList == [119, 105, 100, 116, 104]) = false := hk.n5
  have n6 : (s.toList == [104, 101, 105, 103, 104, 116]) = false := hk.n6
  clear hk
  have F := Lib.hid (prep w g f)
  have SZ := Lib.hid size31
  have h46 := Lib.hid fun w => c46 x w hx
  have uy := Lib.hid (U_numW hx)
  unfold setV
  clear hx
  generalize numW x = y at *
  go_enter Tryz.func21, Tryz.ntmps21
  go_upto_region 1 with fail
  obtain ⟨W1, hW1⟩ : ∃ W1, W1 = (w.alloc (.cells (lkC g f).toArray 31)).alloc (.cells Z54 31) := ⟨_, rfl⟩
  rw [← hW1] at F
  show Code.wp _ _ _ _ ((w.alloc (.cells (lkC g f).toArray 31)).alloc (.cells Z54 31))
  rw [← hW1]
  clear hW1
  have s0 := fun v => store1 F.out.T1 (show 31 < 54 by decide) v
  have F2 : Hid (∀ v, Prep w (W1.setCell ⟨w.heap.size, 31, none⟩ (.float .f64 v)) g (upd f 31 v)) := Lib.hid fun v => F.out.set 31 (.float .f64 v) (by decide) rfl
  go_wp2_with (first
    | (go_at_call 46; refine (h46.out _).mono ?_; rintro e w2 ⟨rfl, rfl⟩)
    | (go_at_call 47; refine (c84 0 _ _ U_0 uy.out).mono ?_; rintro e w2 ⟨⟨r, rfl, hr⟩, rfl⟩; replace hr := Lib.hid hr)
    | (refine wpList_load_mid rfl 31 (.tmp 3) rfl w.heap.size 0 rfl (lkC g (upd f 31 r)) _ (F2.out r).R Tryz.underlying31 rfl SZ.out ?_)
    | (refine wpList_store_mid rfl 31 (.tmp 6) (.tmp 45) rfl (w.heap.size + 1) 0 (lkC g (upd f 31 r)).toArray rfl rfl (F2.out r).T2 SZ.out (lk_one _ _) ?_))
  refine bodyPost_ret (ret_row Tryz.prog (p := 6) rfl rfl (lkC g (upd f 31 r)) (F2.out r).T2 Tryz.underlying31 rfl SZ.out) rfl ?_
  exact ⟨⟨r, hr.out, rfl⟩, below_setCells (F2.out r).B (by omega) 0 _⟩
set_option maxRecDepth 100000 in
set_option maxHeartbeats 1000000 in
theorem c21_3 (s : ByteArray) (g : Nat → Int) (f : Nat → Nat) (x : Nat) (w : World) (hk : PK s 3) (hx : U x) : Calls Tryz.prog 21 #[.agg (lkC g f).toArray, .string s, .float .f64 x] w fun e w' => (∃ r, RV r (setV 3 x) ∧ e = .returned (.agg (lkC (setG 3 g) (upd f 32 r)).toArray)) ∧ Below w.heap.size w w' := by
  have n0 : (s.toList == [115, 105, 122, 101]) = false := hk.n0
  have n1 : (s.toList == [111, 112, 97, 99, 105, 116, 121]) = false := hk.n1
  have n2 : (s.toList == [103, 114, 111, 119]) = false := hk.n2
  have n3 : (s.toList == [115, 104, 114, 105, 110, 107]) = true := hk.n3
  have n4 : (s.toList == [108, 101, 118, 101, 108]) = false := hk.n4
  have n5 : (s.toList == [119, 105, 100, 116, 104]) = false := hk.n5
  have n6 : (s.toList == [104, 101, 105, 103, 104, 116]) = false := hk.n6
  clear hk
  have F := Lib.hid (prep w g f)
  have SZ := Lib.hid size31
  have h46 := Lib.hid fun w => c46 x w hx
  have uy := Lib.hid (U_numW hx)
  unfold setV
  clear hx
  generalize numW x = y at *
  go_enter Tryz.func21, Tryz.ntmps21
  go_upto_region 1 with fail
  obtain ⟨W1, hW1⟩ : ∃ W1, W1 = (w.alloc (.cells (lkC g f).toArray 31)).alloc (.cells Z54 31) := ⟨_, rfl⟩
  rw [← hW1] at F
  show Code.wp _ _ _ _ ((w.alloc (.cells (lkC g f).toArray 31)).alloc (.cells Z54 31))
  rw [← hW1]
  clear hW1
  have s0 := fun v => store1 F.out.T1 (show 32 < 54 by decide) v
  have F2 : Hid (∀ v, Prep w (W1.setCell ⟨w.heap.size, 32, none⟩ (.float .f64 v)) g (upd f 32 v)) := Lib.hid fun v => F.out.set 32 (.float .f64 v) (by decide) rfl
  go_wp2_with (first
    | (go_at_call 46; refine (h46.out _).mono ?_; rintro e w2 ⟨rfl, rfl⟩)
    | (go_at_call 47; refine (c84 0 _ _ U_0 uy.out).mono ?_; rintro e w2 ⟨⟨r, rfl, hr⟩, rfl⟩; replace hr := Lib.hid hr)
    | (refine wpList_load_mid rfl 31 (.tmp 3) rfl w.heap.size 0 rfl (lkC g (upd f 32 r)) _ (F2.out r).R Tryz.underlying31 rfl SZ.out ?_)
    | (refine wpList_store_mid rfl 31 (.tmp 6) (.tmp 45) rfl (w.heap.size + 1) 0 (lkC g (upd f 32 r)).toArray rfl rfl (F2.out r).T2 SZ.out (lk_one _ _) ?_))
  refine bodyPost_ret (ret_row Tryz.prog (p := 6) rfl rfl (lkC g (upd f 32 r)) (F2.out r).T2 Tryz.underlying31 rfl SZ.out) rfl ?_
  exact ⟨⟨r, hr.out, rfl⟩, below_setCells (F2.out r).B (by omega) 0 _⟩
set_option maxRecDepth 100000 in
set_option maxHeartbeats 1000000 in
theorem c21_4 (s : ByteArray) (g : Nat → Int) (f : Nat → Nat) (x : Nat) (w : World) (hk : PK s 4) (hx : U x) : Calls Tryz.prog 21 #[.agg (lkC g f).toArray, .string s, .float .f64 x] w fun e w' => (∃ r, RV r (setV 4 x) ∧ e = .returned (.agg (lkC (setG 4 g) (upd f 53 r)).toArray)) ∧ Below w.heap.size w w' := by
  have n0 : (s.toList == [115, 105, 122, 101]) = false := hk.n0
  have n1 : (s.toList == [111, 112, 97, 99, 105, 116, 121]) = false := hk.n1
  have n2 : (s.toList == [103, 114, 111, 119]) = false := hk.n2
  have n3 : (s.toList == [115, 104, 114, 105, 110, 107]) = false := hk.n3
  have n4 : (s.toList == [108, 101, 118, 101, 108]) = true := hk.n4
  have n5 : (s.toList == [119, 105, 100, 116, 104]) = false := hk.n5
  have n6 : (s.toList == [104, 101, 105, 103, 104, 116]) = false := hk.n6
  clear hk
  have F := Lib.hid (prep w g f)
  have SZ := Lib.hid size31
  have h46 := Lib.hid fun w => c46 x w hx
  have uy := Lib.hid (U_numW hx)
  unfold setV
  clear hx
  generalize numW x = y at *
  go_enter Tryz.func21, Tryz.ntmps21
  go_upto_region 1 with fail
  obtain ⟨W1, hW1⟩ : ∃ W1, W1 = (w.alloc (.cells (lkC g f).toArray 31)).alloc (.cells Z54 31) := ⟨_, rfl⟩
  rw [← hW1] at F
  show Code.wp _ _ _ _ ((w.alloc (.cells (lkC g f).toArray 31)).alloc (.cells Z54 31))
  rw [← hW1]
  clear hW1
  have s0 := fun v => store1 F.out.T1 (show 53 < 54 by decide) v
  have F2 : Hid (∀ v, Prep w (W1.setCell ⟨w.heap.size, 53, none⟩ (.float .f64 v)) g (upd f 53 v)) := Lib.hid fun v => F.out.set 53 (.float .f64 v) (by decide) rfl
  go_wp2_with (first
    | (go_at_call 46; refine (h46.out _).mono ?_; rintro e w2 ⟨rfl, rfl⟩)
    | (refine wpList_load_mid rfl 31 (.tmp 3) rfl w.heap.size 0 rfl (lkC g (upd f 53 y)) _ (F2.out y).R Tryz.underlying31 rfl SZ.out ?_)
    | (refine wpList_store_mid rfl 31 (.tmp 6) (.tmp 45) rfl (w.heap.size + 1) 0 (lkC g (upd f 53 y)).toArray rfl rfl (F2.out y).T2 SZ.out (lk_one _ _) ?_))
  refine bodyPost_ret (ret_row Tryz.prog (p := 6) rfl rfl (lkC g (upd f 53 y)) (F2.out y).T2 Tryz.underlying31 rfl SZ.out) rfl ?_
  exact ⟨⟨y, ⟨uy.out, rfl⟩, rfl⟩, below_setCells (F2.out y).B (by omega) 0 _⟩
set_option maxRecDepth 100000 in
set_option maxHeartbeats 1000000 in
theorem c21_5 (s : ByteArray) (g : Nat → Int) (f : Nat → Nat) (x : Nat) (w : World) (hk : PK s 5) (hx : U x) : Calls Tryz.prog 21 #[.agg (lkC g f).toArray, .string s, .float .f64 x] w fun e w' => (∃ r, RV r (setV 5 x) ∧ e = .returned (.agg (lkC (setG 5 g) (upd f 3 r)).toArray)) ∧ Below w.heap.size w w' := by
  have n0 : (s.toList == [115, 105, 122, 101]) = false := hk.n0
  have n1 : (s.toList == [111, 112, 97, 99, 105, 116, 121]) = false := hk.n1
  have n2 : (s.toList == [103, 114, 111, 119]) = false := hk.n2
  have n3 : (s.toList == [115, 104, 114, 105, 110, 107]) = false := hk.n3
  have n4 : (s.toList == [108, 101, 118, 101, 108]) = false := hk.n4
  have n5 : (s.toList == [119, 105, 100, 116, 104]) = true := hk.n5
  have n6 : (s.toList == [104, 101, 105, 103, 104, 116]) = false := hk.n6
  clear hk
  have F := Lib.hid (prep w g f)
  have SZ := Lib.hid size31
  have h46 := Lib.hid fun w => c46 x w hx
  have uy := Lib.hid (U_numW hx)
  have uz := Lib.hid (U_usedW (U_numW hx))
  have h50 := Lib.hid fun w => c50 (numW x) w (U_numW hx)
  rw [numnum] at h50
  unfold setV
  clear hx
  generalize numW x = y at *
  generalize usedW y = z at *
  go_enter Tryz.func21, Tryz.ntmps21
  go_upto_region 1 with fail
  obtain ⟨W1, hW1⟩ : ∃ W1, W1 = (w.alloc (.cells (lkC g f).toArray 31)).alloc (.cells Z54 31) := ⟨_, rfl⟩
  rw [← hW1] at F
  show Code.wp _ _ _ _ ((w.alloc (.cells (lkC g f).toArray 31)).alloc (.cells Z54 31))
  rw [← hW1]
  clear hW1
  go_wp2_with (first
    | (go_at_call 46; refine (h46.out _).mono ?_; rintro e w2 ⟨rfl, rfl⟩)
    | (go_at_call 50; refine (h50.out _).mono ?_; rintro e w2 ⟨rfl, hb⟩; have F0 := Lib.hid (F.out.below hb); clear hb; have s0 := store1 F0.out.T1 (show 3 < 54 by decide) z; have s1 := there_setB F0.out.T1 ⟨w.heap.size, 3, none⟩ (.float .f64 z) 4 (by decide); rw [Nat.zero_add] at s1; obtain ⟨s1, s2⟩ := s1; obtain ⟨v1, s1⟩ := Option.isSome_iff_exists.1 s1; have F2 := Lib.hid ((F0.out.set (g' := g) (f' := upd f 3 z) 3 (.float .f64 z) (by decide) rfl).set (g' := updG g 4 1) (f' := upd f 3 z) 4 (.int .i64 1) (by decide) rfl))
    | (refine wpList_load_mid rfl 31 (.tmp 3) rfl w.heap.size 0 rfl (lkC (updG g 4 1) (upd f 3 z)) _ F2.out.R Tryz.underlying31 rfl SZ.out ?_)
    | (refine wpList_store_mid rfl 31 (.tmp 6) (.tmp 45) rfl (w.heap.size + 1) 0 (lkC (updG g 4 1) (upd f 3 z)).toArray rfl rfl F2.out.T2 SZ.out (lk_one _ _) ?_))
  refine bodyPost_ret (ret_row Tryz.prog (p := 6) rfl rfl (lkC (updG g 4 1) (upd f 3 z)) F2.out.T2 Tryz.underlying31 rfl SZ.out) rfl ?_
  exact ⟨⟨z, ⟨uz.out, rfl⟩, rfl⟩, below_setCells F2.out.B (by omega) 0 _⟩
set_option maxRecDepth 100000 in
set_option maxHeartbeats 1000000 in
theorem c21_6 (s : ByteArray) (g : Nat → Int) (f : Nat → Nat) (x : Nat) (w : World) (hk : PK s 6) (hx : U x) : Calls Tryz.prog 21 #[.agg (lkC g f).toArray, .string s, .float .f64 x] w fun e w' => (∃ r, RV r (setV 6 x) ∧ e = .returned (.agg (lkC (setG 6 g) (upd f 5 r)).toArray)) ∧ Below w.heap.size w w' := by
  have n0 : (s.toList == [115, 105, 122, 101]) = false := hk.n0
  have n1 : (s.toList == [111, 112, 97, 99, 105, 116, 121]) = false := hk.n1
  have n2 : (s.toList == [103, 114, 111, 119]) = false := hk.n2
  have n3 : (s.toList == [115, 104, 114, 105, 110, 107]) = false := hk.n3
  have n4 : (s.toList == [108, 101, 118, 101, 108]) = false := hk.n4
  have n5 : (s.toList == [119, 105, 100, 116, 104]) = false := hk.n5
  have n6 : (s.toList == [104, 101, 105, 103, 104, 116]) = true := hk.n6
  clear hk
  have F := Lib.hid (prep w g f)
  have SZ := Lib.hid size31
  have h46 := Lib.hid fun w => c46 x w hx
  have uy := Lib.hid (U_numW hx)
  have uz := Lib.hid (U_usedW (U_numW hx))
  have h50 := Lib.hid fun w => c50 (numW x) w (U_numW hx)
  rw [numnum] at h50
  unfold setV
  clear hx
  generalize numW x = y at *
  generalize usedW y = z at *
  go_enter Tryz.func21, Tryz.ntmps21
  go_upto_region 1 with fail
  obtain ⟨W1, hW1⟩ : ∃ W1, W1 = (w.alloc (.cells (lkC g f).toArray 31)).alloc (.cells Z54 31) := ⟨_, rfl⟩
  rw [← hW1] at F
  show Code.wp _ _ _ _ ((w.alloc (.cells (lkC g f).toArray 31)).alloc (.cells Z54 31))
  rw [← hW1]
  clear hW1
  go_wp2_with (first
    | (go_at_call 46; refine (h46.out _).mono ?_; rintro e w2 ⟨rfl, rfl⟩)
    | (go_at_call 50; refine (h50.out _).mono ?_; rintro e w2 ⟨rfl, hb⟩; have F0 := Lib.hid (F.out.below hb); clear hb; have s0 := store1 F0.out.T1 (show 5 < 54 by decide) z; have s1 := there_setB F0.out.T1 ⟨w.heap.size, 5, none⟩ (.float .f64 z) 6 (by decide); rw [Nat.zero_add] at s1; obtain ⟨s1, s2⟩ := s1; obtain ⟨v1, s1⟩ := Option.isSome_iff_exists.1 s1; have F2 := Lib.hid ((F0.out.set (g' := g) (f' := upd f 5 z) 5 (.float .f64 z) (by decide) rfl).set (g' := updG g 6 1) (f' := upd f 5 z) 6 (.int .i64 1) (by decide) rfl))
    | (refine wpList_load_mid rfl 31 (.tmp 3) rfl w.heap.size 0 rfl (lkC (updG g 6 1) (upd f 5 z)) _ F2.out.R Tryz.underlying31 rfl SZ.out ?_)
    | (refine wpList_store_mid rfl 31 (.tmp 6) (.tmp 45) rfl (w.heap.size + 1) 0 (lkC (updG g 6 1) (upd f 5 z)).toArray rfl rfl F2.out.T2 SZ.out (lk_one _ _) ?_))
  refine bodyPost_ret (ret_row Tryz.prog (p := 6) rfl rfl (lkC (updG g 6 1) (upd f 5 z)) F2.out.T2 Tryz.underlying31 rfl SZ.out) rfl ?_
  exact ⟨⟨z, ⟨uz.out, rfl⟩, rfl⟩, below_setCells F2.out.B (by omega) 0 _⟩
set_option maxRecDepth 100000 in
set_option maxHeartbeats 1000000 in
theorem c11_0 (s : ByteArray) (g : Nat → Int) (f : Nat → Nat) (x : Nat) (w : World) (hk : PK s 0) (hx : U x) : Calls Tryz.prog 11 #[.agg (lkC g f).toArray, .string s, .float .f64 x] w fun e w' => (∃ r, RV r (setV 0 x) ∧ e = .returned (.tuple #[.agg (lkC (setG 0 g) (upd f 1 r)).toArray, .bool true])) ∧ Below w.heap.size w w' := by
  have n0 : (s.toList == [115, 105, 122, 101]) = true := hk.n0
  have n1 : (s.toList == [111, 112, 97, 99, 105, 116, 121]) = false := hk.n1
  have n2 : (s.toList == [103, 114, 111, 119]) = false := hk.n2
  have n3 : (s.toList == [115, 104, 114, 105, 110, 107]) = false := hk.n3
  have n4 : (s.toList == [108, 101, 118, 101, 108]) = false := hk.n4
  have n5 : (s.toList == [119, 105, 100, 116, 104]) = false := hk.n5
  have n6 : (s.toList == [104, 101, 105, 103, 104, 116]) = false := hk.n6
  clear hk
  have F := Lib.hid (prep w g f)
  have SZ := Lib.hid size31
  have h46 := Lib.hid fun w => c22 x w hx
  have uy := Lib.hid (U_numW hx)
  have h48 := Lib.hid fun w => c24 (numW x) w (U_numW hx)
  have uz := Lib.hid (U_usedW (U_numW hx))
  unfold setV
  clear hx
  generalize numW x = y at *
  generalize usedW y = z at *
  go_enter Tryz.func11, Tryz.ntmps11
  go_upto_region 1 with fail
  obtain ⟨W1, hW1⟩ : ∃ W1, W1 = (w.alloc (.cells (lkC g f).toArray 31)).alloc (.cells Z54 31) := ⟨_, rfl⟩
  rw [← hW1] at F
  show Code.wp _ _ _ _ ((w.alloc (.cells (lkC g f).toArray 31)).alloc (.cells Z54 31))
  rw [← hW1]
  clear hW1
  have s0 := fun v => store1 F.out.T1 (show 1 < 54 by decide) v
  have F2 : Hid (∀ v, Prep w (W1.setCell ⟨w.heap.size, 1, none⟩ (.float .f64 v)) g (upd f 1 v)) := Lib.hid fun v => F.out.set 1 (.float .f64 v) (by decide) rfl
  go_wp2_with (first
    | (go_at_call 22; refine (h46.out _).mono ?_; rintro e w2 ⟨rfl, rfl⟩)
    | (go_at_call 24; refine (h48.out _).mono ?_; rintro e w2 ⟨rfl, rfl⟩)
    | (go_at_call 23; refine (c111 0 _ _ U_0 uz.out).mono ?_; rintro e w2 ⟨⟨r, rfl, hr⟩, rfl⟩; replace hr := Lib.hid hr)
    | (refine wpList_load_mid rfl 31 (.tmp 3) rfl w.heap.size 0 rfl (lkC g (upd f 1 r)) _ (F2.out r).R Tryz.underlying31 rfl SZ.out ?_)
    | (refine wpList_store_mid rfl 31 (.tmp 6) (.tmp 50) rfl (w.heap.size + 1) 0 (lkC g (upd f 1 r)).toArray rfl rfl (F2.out r).T2 SZ.out (lk_one _ _) ?_))
  refine bodyPost_ret (ret_row2 Tryz.prog (p := 6) (u := 7) rfl rfl rfl (lkC g (upd f 1 r)) (F2.out r).T2 Tryz.underlying31 rfl SZ.out) rfl ?_
  exact ⟨⟨r, hr.out, rfl⟩, below_setCells (F2.out r).B (by omega) 0 _⟩
set_option maxRecDepth 100000 in
set_option maxHeartbeats 1000000 in
theorem c11_1 (s : ByteArray) (g : Nat → Int) (f : Nat → Nat) (x : Nat) (w : World) (hk : PK s 1) (hx : U x) : Calls Tryz.prog 11 #[.agg (lkC g f).toArray, .string s, .float .f64 x] w fun e w' => (∃ r, RV r (setV 1 x) ∧ e = .returned (.tuple #[.agg (lkC (setG 1 g) (upd f 2 r)).toArray, .bool true])) ∧ Below w.heap.size w w' := by
  have n0 : (s.toList == [115, 105, 122, 101]) = false := hk.n0
  have n1 : (s.toList == [111, 112, 97, 99, 105, 116, 121]) = true := hk.n1
  have n2 : (s.toList == [103, 114, 111, 119]) = false := hk.n2
  have n3 : (s.toList == [115, 104, 114, 105, 110, 107]) = false := hk.n3
  have n4 : (s.toList == [108, 101, 118, 101, 108]) = false := hk.n4
  have n5 : (s.toList == [119, 105, 100, 116, 104]) = false := hk.n5
  have n6 : (s.toList == [104, 101, 105, 103, 104, 116]) = false := hk.n6
  clear hk
  have F := Lib.hid (prep w g f)
  have SZ := Lib.hid size31
  have h46 := Lib.hid fun w => c22 x w hx
  have uy := Lib.hid (U_numW hx)
  unfold setV
  clear hx
  generalize numW x = y at *
  go_enter Tryz.func11, Tryz.ntmps11
  go_upto_region 1 with fail
  obtain ⟨W1, hW1⟩ : ∃ W1, W1 = (w.alloc (.cells (lkC g f).toArray 31)).alloc (.cells Z54 31) := ⟨_, rfl⟩
  rw [← hW1] at F
  show Code.wp _ _ _ _ ((w.alloc (.cells (lkC g f).toArray 31)).alloc (.cells Z54 31))
  rw [← hW1]
  clear hW1
  have s0 := fun v => store1 F.out.T1 (show 2 < 54 by decide) v
  have F2 : Hid (∀ v, Prep w (W1.setCell ⟨w.heap.size, 2, none⟩ (.float .f64 v)) g (upd f 2 v)) := Lib.hid fun v => F.out.set 2 (.float .f64 v) (by decide) rfl
  go_wp2_with (first
    | (go_at_call 22; refine (h46.out _).mono ?_; rintro e w2 ⟨rfl, rfl⟩)
    | (go_at_call 25; refine (c110 _ 4607182418800017408 _ uy.out U_ONE).mono ?_; rintro e w2 ⟨⟨q, rfl, hq⟩, rfl⟩; replace hq := Lib.hid hq)
    | (go_at_call 23; refine (c111 0 _ _ U_0 hq.out.1).mono ?_; rintro e w2 ⟨⟨r, rfl, hr⟩, rfl⟩; replace hr := Lib.hid hr)
    | (refine wpList_load_mid rfl 31 (.tmp 3) rfl w.heap.size 0 rfl (lkC g (upd f 2 r)) _ (F2.out r).R Tryz.underlying31 rfl SZ.out ?_)
    | (refine wpList_store_mid rfl 31 (.tmp 6) (.tmp 50) rfl (w.heap.size + 1) 0 (lkC g (upd f 2 r)).toArray rfl rfl (F2.out r).T2 SZ.out (lk_one _ _) ?_))
  refine bodyPost_ret (ret_row2 Tryz.prog (p := 6) (u := 7) rfl rfl rfl (lkC g (upd f 2 r)) (F2.out r).T2 Tryz.underlying31 rfl SZ.out) rfl ?_
  exact ⟨⟨r, ⟨hr.out.1, by rw [hr.out.2, hq.out.2]⟩, rfl⟩, below_setCells (F2.out r).B (by omega) 0 _⟩
set_option maxRecDepth 100000 in
set_option maxHeartbeats 1000000 in
theorem c11_2 (s : ByteArray) (g : Nat → Int) (f : Nat → Nat) (x : Nat) (w : World) (hk : PK s 2) (hx : U x) : Calls Tryz.prog 11 #[.agg (lkC g f).toArray, .string s, .float .f64 x] w fun e w' => (∃ r, RV r (setV 2 x) ∧ e = .returned (.tuple #[.agg (lkC (setG 2 g) (upd f 31 r)).toArray, .bool true])) ∧ Below w.heap.size w w' := by
  have n0 : (s.toList == [115, 105, 122, 101]) = false := hk.n0
  have n1 : (s.toList == [111, 112, 97, 99, 105, 116, 121]) = false := hk.n1
  have n2 : (s.toList == [103, 114, 111, 119]) = true := hk.n2
  have n3 : (s.toList == [115, 104, 114, 105, 110, 107]) = false := hk.n3
  have n4 : (s.toList == [108, 101, 118, 101, 108]) = false := hk.n4
  have n5 : (s.toList == [119, 105, 100, 116, 104]) = false := hk.n5
  have n6 : (s.toList == [104, 101, 105, 103, 104, 116]) = false := hk.n6
  clear hk
  have F := Lib.hid (prep w g f)
  have SZ := Lib.hid size31
  have h46 := Lib.hid fun w => c22 x w hx
  have uy := Lib.hid (U_numW hx)
  unfold setV
  clear hx
  generalize numW x = y at *
  go_enter Tryz.func11, Tryz.ntmps11
  go_upto_region 1 with fail
  obtain ⟨W1, hW1⟩ : ∃ W1, W1 = (w.alloc (.cells (lkC g f).toArray 31)).alloc (.cells Z54 31) := ⟨_, rfl⟩
  rw [← hW1] at F
  show Code.wp _ _ _ _ ((w.alloc (.cells (lkC g f).toArray 31)).alloc (.cells Z54 31))
  rw [← hW1]
  clear hW1
  have s0 := fun v => store1 F.out.T1 (show 31 < 54 by decide) v
  have F2 : Hid (∀ v, Prep w (W1.setCell ⟨w.heap.size, 31, none⟩ (.float .f64 v)) g (upd f 31 v)) := Lib.hid fun v => F.out.set 31 (.float .f64 v) (by decide) rfl
  go_wp2_with (first
    | (go_at_call 22; refine (h46.out _).mono ?_; rintro e w2 ⟨rfl, rfl⟩)
    | (go_at_call 23; refine (c111 0 _ _ U_0 uy.out).mono ?_; rintro e w2 ⟨⟨r, rfl, hr⟩, rfl⟩; replace hr := Lib.hid hr)
    | (refine wpList_load_mid rfl 31 (.tmp 3) rfl w.heap.size 0 rfl (lkC g (upd f 31 r)) _ (F2.out r).R Tryz.underlying31 rfl SZ.out ?_)
    | (refine wpList_store_mid rfl 31 (.tmp 6) (.tmp 50) rfl (w.heap.size + 1) 0 (lkC g (upd f 31 r)).toArray rfl rfl (F2.out r).T2 SZ.out (lk_one _ _) ?_))
  refine bodyPost_ret (ret_row2 Tryz.prog (p := 6) (u := 7) rfl rfl rfl (lkC g (upd f 31 r)) (F2.out r).T2 Tryz.underlying31 rfl SZ.out) rfl ?_
  exact ⟨⟨r, hr.out, rfl⟩, below_setCells (F2.out r).B (by omega) 0 _⟩
set_option maxRecDepth 100000 in
set_option maxHeartbeats 1000000 in
theorem c11_3 (s : ByteArray) (g : Nat → Int) (f : Nat → Nat) (x : Nat) (w : World) (hk : PK s 3) (hx : U x) : Calls Tryz.prog 11 #[.agg (lkC g f).toArray, .string s, .float .f64 x] w fun e w' => (∃ r, RV r (setV 3 x) ∧ e = .returned (.tuple #[.agg (lkC (setG 3 g) (upd f 32 r)).toArray, .bool true])) ∧ Below w.heap.size w w' := by
  have n0 : (s.toList == [115, 105, 122, 101]) = false := hk.n0
  have n1 : (s.toList == [111, 112, 97, 99, 105, 116, 121]) = false := hk.n1
  have n2 : (s.toList == [103, 114, 111, 119]) = false := hk.n2
  have n3 : (s.toList == [115, 104, 114, 105, 110, 107]) = true := hk.n3
  have n4 : (s.toList == [108, 101, 118, 101, 108]) = false := hk.n4
  have n5 : (s.toList == [119, 105, 100, 116, 104]) = false := hk.n5
  have n6 : (s.toList == [104, 101, 105, 103, 104, 116]) = false := hk.n6
  clear hk
  have F := Lib.hid (prep w g f)
  have SZ := Lib.hid size31
  have h46 := Lib.hid fun w => c22 x w hx
  have uy := Lib.hid (U_numW hx)
  unfold setV
  clear hx
  generalize numW x = y at *
  go_enter Tryz.func11, Tryz.ntmps11
  go_upto_region 1 with fail
  obtain ⟨W1, hW1⟩ : ∃ W1, W1 = (w.alloc (.cells (lkC g f).toArray 31)).alloc (.cells Z54 31) := ⟨_, rfl⟩
  rw [← hW1] at F
  show Code.wp _ _ _ _ ((w.alloc (.cells (lkC g f).toArray 31)).alloc (.cells Z54 31))
  rw [← hW1]
  clear hW1
  have s0 := fun v => store1 F.out.T1 (show 32 < 54 by decide) v
  have F2 : Hid (∀ v, Prep w (W1.setCell ⟨w.heap.size, 32, none⟩ (.float .f64 v)) g (upd f 32 v)) := Lib.hid fun v => F.out.set 32 (.float .f64 v) (by decide) rfl
  go_wp2_with (first
    | (go_at_call 22; refine (h46.out _).mono ?_; rintro e w2 ⟨rfl, rfl⟩)
    | (go_at_call 23; refine (c111 0 _ _ U_0 uy.out).mono ?_; rintro e w2 ⟨⟨r, rfl, hr⟩, rfl⟩; replace hr := Lib.hid hr)
    | (refine wpList_load_mid rfl 31 (.tmp 3) rfl w.heap.size 0 rfl (lkC g (upd f 32 r)) _ (F2.out r).R Tryz.underlying31 rfl SZ.out ?_)
    | (refine wpList_store_mid rfl 31 (.tmp 6) (.tmp 50) rfl (w.heap.size + 1) 0 (lkC g (upd f 32 r)).toArray rfl rfl (F2.out r).T2 SZ.out (lk_one _ _) ?_))
  refine bodyPost_ret (ret_row2 Tryz.prog (p := 6) (u := 7) rfl rfl rfl (lkC g (upd f 32 r)) (F2.out r).T2 Tryz.underlying31 rfl SZ.out) rfl ?_
  exact ⟨⟨r, hr.out, rfl⟩, below_setCells (F2.out r).B (by omega) 0 _⟩
set_option maxRecDepth 100000 in
set_option maxHeartbeats 1000000 in
theorem c11_4 (s : ByteArray) (g : Nat → Int) (f : Nat → Nat) (x : Nat) (w : World) (hk : PK s 4) (hx : U x) : Calls Tryz.prog 11 #[.agg (lkC g f).toArray, .string s, .float .f64 x] w fun e w' => (∃ r, RV r (setV 4 x) ∧ e = .returned (.tuple #[.agg (lkC (setG 4 g) (upd f 53 r)).toArray, .bool true])) ∧ Below w.heap.size w w' := by
  have n0 : (s.toList == [115, 105, 122, 101]) = false := hk.n0
  have n1 : (s.toList == [111, 112, 97, 99, 105, 116, 121]) = false := hk.n1
  have n2 : (s.toList == [103, 114, 111, 119]) = false := hk.n2
  have n3 : (s.toList == [115, 104, 114, 105, 110, 107]) = false := hk.n3
  have n4 : (s.toList == [108, 101, 118, 101, 108]) = true := hk.n4
  have n5 : (s.toList == [119, 105, 100, 116, 104]) = false := hk.n5
  have n6 : (s.toList == [104, 101, 105, 103, 104, 116]) = false := hk.n6
  clear hk
  have F := Lib.hid (prep w g f)
  have SZ := Lib.hid size31
  have h46 := Lib.hid fun w => c22 x w hx
  have uy := Lib.hid (U_numW hx)
  unfold setV
  clear hx
  generalize numW x = y at *
  go_enter Tryz.func11, Tryz.ntmps11
  go_upto_region 1 with fail
  obtain ⟨W1, hW1⟩ : ∃ W1, W1 = (w.alloc (.cells (lkC g f).toArray 31)).alloc (.cells Z54 31) := ⟨_, rfl⟩
  rw [← hW1] at F
  show Code.wp _ _ _ _ ((w.alloc (.cells (lkC g f).toArray 31)).alloc (.cells Z54 31))
  rw [← hW1]
  clear hW1
  have s0 := fun v => store1 F.out.T1 (show 53 < 54 by decide) v
  have F2 : Hid (∀ v, Prep w (W1.setCell ⟨w.heap.size, 53, none⟩ (.float .f64 v)) g (upd f 53 v)) := Lib.hid fun v => F.out.set 53 (.float .f64 v) (by decide) rfl
  go_wp2_with (first
    | (go_at_call 22; refine (h46.out _).mono ?_; rintro e w2 ⟨rfl, rfl⟩)
    | (refine wpList_load_mid rfl 31 (.tmp 3) rfl w.heap.size 0 rfl (lkC g (upd f 53 y)) _ (F2.out y).R Tryz.underlying31 rfl SZ.out ?_)
    | (refine wpList_store_mid rfl 31 (.tmp 6) (.tmp 50) rfl (w.heap.size + 1) 0 (lkC g (upd f 53 y)).toArray rfl rfl (F2.out y).T2 SZ.out (lk_one _ _) ?_))
  refine bodyPost_ret (ret_row2 Tryz.prog (p := 6) (u := 7) rfl rfl rfl (lkC g (upd f 53 y)) (F2.out y).T2 Tryz.underlying31 rfl SZ.out) rfl ?_
  exact ⟨⟨y, ⟨uy.out, rfl⟩, rfl⟩, below_setCells (F2.out y).B (by omega) 0 _⟩
set_option maxRecDepth 100000 in
set_option maxHeartbeats 1000000 in
theorem c11_5 (s : ByteArray) (g : Nat → Int) (f : Nat → Nat) (x : Nat) (w : World) (hk : PK s 5) (hx : U x) : Calls Tryz.prog 11 #[.agg (lkC g f).toArray, .string s, .float .f64 x] w fun e w' => (∃ r, RV r (setV 5 x) ∧ e = .returned (.tuple #[.agg (lkC (setG 5 g) (upd f 3 r)).toArray, .bool true])) ∧ Below w.heap.size w w' := by
  have n0 : (s.toList == [115, 105, 122, 101]) = false := hk.n0
  have n1 : (s.toList == [111, 112, 97, 99, 105, 116, 121]) = false := hk.n1
  have n2 : (s.toList == [103, 114, 111, 119]) = false := hk.n2
  have n3 : (s.toList == [115, 104, 114, 105, 110, 107]) = false := hk.n3
  have n4 : (s.toList == [108, 101, 118, 101, 108]) = false := hk.n4
  have n5 : (s.toList == [119, 105, 100, 116, 104]) = true := hk.n5
  have n6 : (s.toList == [104, 101, 105, 103, 104, 116]) = false := hk.n6
  clear hk
  have F := Lib.hid (prep w g f)
  have SZ := Lib.hid size31
  have h46 := Lib.hid fun w => c22 x w hx
  have uy := Lib.hid (U_numW hx)
  have uz := Lib.hid (U_usedW (U_numW hx))
  have h48 := Lib.hid fun w => c24 (numW x) w (U_numW hx)
  unfold setV
  clear hx
  generalize numW x = y at *
  generalize usedW y = z at *
  go_enter Tryz.func11, Tryz.ntmps11
  go_upto_region 1 with fail
  obtain ⟨W1, hW1⟩ : ∃ W1, W1 = (w.alloc (.cells (lkC g f).toArray 31)).alloc (.cells Z54 31) := ⟨_, rfl⟩
  rw [← hW1] at F
  show Code.wp _ _ _ _ ((w.alloc (.cells (lkC g f).toArray 31)).alloc (.cells Z54 31))
  rw [← hW1]
  clear hW1
  have F0 := F
  have s0 := store1 F0.out.T1 (show 3 < 54 by decide) z
  have s1 := there_setB F0.out.T1 ⟨w.heap.size, 3, none⟩ (.float .f64 z) 4 (by decide)
  rw [Nat.zero_add] at s1
  obtain ⟨s1, s2⟩ := s1
  obtain ⟨v1, s1⟩ := Option.isSome_iff_exists.1 s1
  have F2 := Lib.hid ((F0.out.set (g' := g) (f' := upd f 3 z) 3 (.float .f64 z) (by decide) rfl).set (g' := updG g 4 1) (f' := upd f 3 z) 4 (.int .i64 1) (by decide) rfl)
  go_wp2_with (first
    | (go_at_call 22; refine (h46.out _).mono ?_; rintro e w2 ⟨rfl, rfl⟩)
    | (go_at_call 24; refine (h48.out _).mono ?_; rintro e w2 ⟨rfl, rfl⟩)
    | (refine wpList_load_mid rfl 31 (.tmp 3) rfl w.heap.size 0 rfl (lkC (updG g 4 1) (upd f 3 z)) _ F2.out.R Tryz.underlying31 rfl SZ.out ?_)
    | (refine wpList_store_mid rfl 31 (.tmp 6) (.tmp 50) rfl (w.heap.size + 1) 0 (lkC (updG g 4 1) (upd f 3 z)).toArray rfl rfl F2.out.T2 SZ.out (lk_one _ _) ?_))
  refine bodyPost_ret (ret_row2 Tryz.prog (p := 6) (u := 7) rfl rfl rfl (lkC (updG g 4 1) (upd f 3 z)) F2.out.T2 Tryz.underlying31 rfl SZ.out) rfl ?_
  exact ⟨⟨z, ⟨uz.out, rfl⟩, rfl⟩, below_setCells F2.out.B (by omega) 0 _⟩
set_option maxRecDepth 100000 in
set_option maxHeartbeats 1000000 in
theorem c11_6 (s : ByteArray) (g : Nat → Int) (f : Nat → Nat) (x : Nat) (w : World) (hk : PK s 6) (hx : U x) : Calls Tryz.prog 11 #[.agg (lkC g f).toArray, .string s, .float .f64 x] w fun e w' => (∃ r, RV r (setV 6 x) ∧ e = .returned (.tuple #[.agg (lkC (setG 6 g) (upd f 5 r)).toArray, .bool true])) ∧ Below w.heap.size w w' := by
  have n0 : (s.toList == [115, 105, 122, 101]) = false := hk.n0
  have n1 : (s.toList == [111, 112, 97, 99, 105, 116, 121]) = false := hk.n1
  have n2 : (s.toList == [103, 114, 111, 119]) = false := hk.n2
  have n3 : (s.toList == [115, 104, 114, 105, 110, 107]) = false := hk.n3
  have n4 : (s.toList == [108, 101, 118, 101, 108]) = false := hk.n4
  have n5 : (s.toList == [119, 105, 100, 116, 104]) = false := hk.n5
  have n6 : (s.toList == [104, 101, 105, 103, 104, 116]) = true := hk.n6
  clear hk
  have F := Lib.hid (prep w g f)
  have SZ := Lib.hid size31
  have h46 := Lib.hid fun w => c22 x w hx
  have uy := Lib.hid (U_numW hx)
  have uz := Lib.hid (U_usedW (U_numW hx))
  have h48 := Lib.hid fun w => c24 (numW x) w (U_numW hx)
  unfold setV
  clear hx
  generalize numW x = y at *
  generalize usedW y = z at *
  go_enter Tryz.func11, Tryz.ntmps11
  go_upto_region 1 with fail
  obtain ⟨W1, hW1⟩ : ∃ W1, W1 = (w.alloc (.cells (lkC g f).toArray 31)).alloc (.cells Z54 31) := ⟨_, rfl⟩
  rw [← hW1] at F
  show Code.wp _ _ _ _ ((w.alloc (.cells (lkC g f).toArray 31)).alloc (.cells Z54 31))
  rw [← hW1]
  clear hW1
  have F0 := F
  have s0 := store1 F0.out.T1 (show 5 < 54 by decide) z
  have s1 := there_setB F0.out.T1 ⟨w.heap.size, 5, none⟩ (.float .f64 z) 6 (by decide)
  rw [Nat.zero_add] at s1
  obtain ⟨s1, s2⟩ := s1
  obtain ⟨v1, s1⟩ := Option.isSome_iff_exists.1 s1
  have F2 := Lib.hid ((F0.out.set (g' := g) (f' := upd f 5 z) 5 (.float .f64 z) (by decide) rfl).set (g' := updG g 6 1) (f' := upd f 5 z) 6 (.int .i64 1) (by decide) rfl)
  go_wp2_with (first
    | (go_at_call 22; refine (h46.out _).mono ?_; rintro e w2 ⟨rfl, rfl⟩)
    | (go_at_call 24; refine (h48.out _).mono ?_; rintro e w2 ⟨rfl, rfl⟩)
    | (refine wpList_load_mid rfl 31 (.tmp 3) rfl w.heap.size 0 rfl (lkC (updG g 6 1) (upd f 5 z)) _ F2.out.R Tryz.underlying31 rfl SZ.out ?_)
    | (refine wpList_store_mid rfl 31 (.tmp 6) (.tmp 50) rfl (w.heap.size + 1) 0 (lkC (updG g 6 1) (upd f 5 z)).toArray rfl rfl F2.out.T2 SZ.out (lk_one _ _) ?_))
  refine bodyPost_ret (ret_row2 Tryz.prog (p := 6) (u := 7) rfl rfl rfl (lkC (updG g 6 1) (upd f 5 z)) F2.out.T2 Tryz.underlying31 rfl SZ.out) rfl ?_
  exact ⟨⟨z, ⟨uz.out, rfl⟩, rfl⟩, below_setCells F2.out.B (by omega) 0 _⟩
set_option maxRecDepth 100000 in
set_option maxHeartbeats 1000000 in
theorem c11_7 (s : ByteArray) (g : Nat → Int) (f : Nat → Nat) (x : Nat) (w : World) (hk : PK s 7) (hx : U x) : Calls Tryz.prog 11 #[.agg (lkC g f).toArray, .string s, .float .f64 x] w fun e w' => e = .returned (.tuple #[.agg Z54, .bool false]) ∧ Below w.heap.size w w' := by
  have n0 : (s.toList == [115, 105, 122, 101]) = false := hk.n0
  have n1 : (s.toList == [111, 112, 97, 99, 105, 116, 121]) = false := hk.n1
  have n2 : (s.toList == [103, 114, 111, 119]) = false := hk.n2
  have n3 : (s.toList == [115, 104, 114, 105, 110, 107]) = false := hk.n3
  have n4 : (s.toList == [108, 101, 118, 101, 108]) = false := hk.n4
  have n5 : (s.toList == [119, 105, 100, 116, 104]) = false := hk.n5
  have n6 : (s.toList == [104, 101, 105, 103, 104, 116]) = false := hk.n6
  clear hk
  have F := Lib.hid (prep w g f)
  have SZ := Lib.hid size31
  have h46 := Lib.hid fun w => c22 x w hx
  have uy := Lib.hid (U_numW hx)
  clear hx
  generalize numW x = y at *
  go_enter Tryz.func11, Tryz.ntmps11
  go_upto_region 1 with fail
  obtain ⟨W1, hW1⟩ : ∃ W1, W1 = (w.alloc (.cells (lkC g f).toArray 31)).alloc (.cells Z54 31) := ⟨_, rfl⟩
  rw [← hW1] at F
  show Code.wp _ _ _ _ ((w.alloc (.cells (lkC g f).toArray 31)).alloc (.cells Z54 31))
  rw [← hW1]
  clear hW1
  go_wp2_with (first
    | (go_at_call 22; refine (h46.out _).mono ?_; rintro e w2 ⟨rfl, rfl⟩)
    | (refine wpList_builtC rfl 31 [] rfl [] Z54 rfl built31 ?_)
    | (refine wpList_store_mid rfl 31 (.tmp 6) (.tmp 11) rfl (w.heap.size + 1) 0 Z54 rfl rfl F.out.T2 SZ.out (lk_one _ _) ?_))
  refine bodyPost_ret (ret_row2 Tryz.prog (p := 6) (u := 7) rfl rfl rfl (lkC (fun _ => 0) (fun _ => 0)) F.out.T2 Tryz.underlying31 rfl SZ.out) rfl ?_
  exact ⟨rfl, below_setCells F.out.B (by omega) 0 _⟩
end Go.Proofs.YtphoggimeaejnaaGreatDoor

