/- Small functions of the style: IsNaN, Same, number, Used, pixels, values. -/
import Derived.Test.YtphoggimeaejnaaGreatDoorStA
namespace Go.Proofs.YtphoggimeaejnaaGreatDoor
open Go.RowKit Fl

set_option maxRecDepth 100000 in
theorem c103 (x : Nat) (w : World) (hx : U x) : Calls Tryz.prog 103 #[.float .f64 x] w fun e w' => e = .returned (.bool (isN x)) ∧ w = w' := by
  have h2 := neq_self x hx
  go_enter Tryz.func103, Tryz.ntmps103
  go_wp2
  go_ret
  exact ⟨rfl, rfl⟩
set_option maxRecDepth 100000 in
theorem c9 (x y : Nat) (w : World) (hx : U x) (hy : U y) : Calls Tryz.prog 9 #[.float .f64 x, .float .f64 y] w fun e w' => e = .returned (.bool (pl x == pl y)) ∧ w = w' := by
  have h := same_bits hx hy
  have e1 := neq_self x hx
  have e2 := neq_self y hy
  have e3 : ((x : Int) == (y : Int)) = (x == y) := by rw [Bool.eq_iff_iff]; simp; omega
  rw [← h]
  clear h
  cases h1 : (x == y) <;> cases h2 : isN x <;> cases h3 : isN y
  all_goals
    rw [h2] at e1
    rw [h3] at e2
    rw [h1] at e3
    clear h1 h2 h3
    go_enter Tryz.func9, Tryz.ntmps9
    go_wp2
    go_ret
    exact ⟨rfl, rfl⟩
def numW (x : Nat) : Nat := if isN x then 0 else x
theorem U_numW {x : Nat} (h : U x) : U (numW x) := by unfold numW; split; exact U_0; exact h
theorem numN (x : Nat) : isN (numW x) = false := by
  unfold numW
  cases h : isN x
  · rw [if_neg Bool.false_ne_true]; exact h
  · rw [if_pos rfl]; decide
set_option maxRecDepth 100000 in
theorem c46 (x : Nat) (w : World) (hx : U x) : Calls Tryz.prog 46 #[.float .f64 x] w fun e w' => e = .returned (.float .f64 (numW x)) ∧ w = w' := by
  have h2 : Hid (∀ w, Calls Tryz.prog 103 #[.float .f64 x] w fun e w' => e = .returned (.bool (isN x)) ∧ w = w') := Lib.hid fun w => c103 x w hx
  unfold numW
  clear hx
  generalize isN x = b at *
  cases b
  all_goals
    go_enter Tryz.func46, Tryz.ntmps46
    go_wp2_with (go_at_call 103; refine (h2.out _).mono ?_; rintro e w2 ⟨rfl, rfl⟩)
    go_ret
    exact ⟨rfl, rfl⟩
set_option maxRecDepth 100000 in
theorem c22 (x : Nat) (w : World) (hx : U x) : Calls Tryz.prog 22 #[.float .f64 x] w fun e w' => e = .returned (.float .f64 (numW x)) ∧ w = w' := by
  have h2 := neq_self x hx
  unfold numW
  cases h : isN x <;> rw [h] at h2 <;> clear h
  all_goals
    go_enter Tryz.func22, Tryz.ntmps22
    go_wp2
    go_ret
    exact ⟨rfl, rfl⟩
def usedW (y : Nat) : Nat := if isN y then 0 else if feqP (pl y) (pl 0) then 0 else if fltP (pl 4719772409484279808) (pl y) then 4719772409484279808 else if fltP (pl y) (pl 13943144446339055616) then 13943144446339055616 else y
theorem U_MX : U 4719772409484279808 := by unfold U; decide
theorem U_NX : U 13943144446339055616 := by unfold U; decide
theorem U_usedW {x : Nat} (h : U x) : U (usedW x) := by
  unfold usedW
  split
  · exact U_0
  split
  · exact U_0
  split
  · exact U_MX
  split
  · exact U_NX
  · exact h
set_option maxRecDepth 100000 in
theorem c24 (y : Nat) (w : World) (hy : U y) : Calls Tryz.prog 24 #[.float .f64 y] w fun e w' => e = .returned (.float .f64 (usedW y)) ∧ w = w' := by
  have h2 := neq_self y hy
  have e0 := f_eq y 0 hy U_0
  have e1 := f_gt y 4719772409484279808 hy U_MX
  have e2 := f_lt y 13943144446339055616 hy U_NX
  unfold usedW
  clear hy
  generalize feqP (pl y) (pl 0) = b0 at *
  generalize fltP (pl 4719772409484279808) (pl y) = b1 at *
  generalize fltP (pl y) (pl 13943144446339055616) = b2 at *
  generalize isN y = b3 at *
  cases b3 <;> cases b0 <;> cases b1 <;> cases b2
  all_goals
    go_enter Tryz.func24, Tryz.ntmps24
    go_wp2
    go_ret
    exact ⟨rfl, rfl⟩
set_option maxRecDepth 100000 in
theorem c48 (y : Nat) (w : World) (hy : U y) : Calls Tryz.prog 48 #[.float .f64 y] w fun e w' => e = .returned (.float .f64 (usedW y)) ∧ w = w' := by
  have h2 : Hid (∀ w, Calls Tryz.prog 103 #[.float .f64 y] w fun e w' => e = .returned (.bool (isN y)) ∧ w = w') := Lib.hid fun w => c103 y w hy
  have e0 := f_eq y 0 hy U_0
  have e1 := f_gt y 4719772409484279808 hy U_MX
  have e2 := f_lt y 13943144446339055616 hy U_NX
  unfold usedW
  clear hy
  generalize feqP (pl y) (pl 0) = b0 at *
  generalize fltP (pl 4719772409484279808) (pl y) = b1 at *
  generalize fltP (pl y) (pl 13943144446339055616) = b2 at *
  generalize isN y = b3 at *
  cases b3 <;> cases b0 <;> cases b1 <;> cases b2
  all_goals
    go_enter Tryz.func48, Tryz.ntmps48
    go_wp2_with (go_at_call 103; refine (h2.out _).mono ?_; rintro e w2 ⟨rfl, rfl⟩)
    go_ret
    exact ⟨rfl, rfl⟩
theorem there_new (w : World) (cs : Array Value) (t : TypeId) (n : Nat) (h : cs.size = n) : (w.alloc (.cells cs t)).there w.heap.size 0 n := fun j hj => by
  rw [Nat.zero_add, World.cell?_alloc_new w cs t j, Array.getElem?_eq_getElem (by omega)]
  exact ⟨rfl, by simp [go_sem]⟩
theorem range_new (w : World) (cs : List Value) (t : TypeId) : (w.alloc (.cells cs.toArray t)).rangeAt w.heap.size 0 cs := fun j v hj => by
  rw [Nat.zero_add, World.cell?_alloc_new w cs.toArray t j, List.getElem?_toArray]; exact hj
theorem range_below {w w' : World} {b o B : Nat} {cs : List Value} (h : w.rangeAt b o cs) (hb : Below B w w') (hB : b < B) : w'.rangeAt b o cs := fun j v hj => (hb.cell (p := ⟨b, o + j, none⟩) hB).trans (h j v hj)
theorem there_below {w w' : World} {b o n B : Nat} (h : w.there b o n) (hb : Below B w w') (hB : b < B) : w'.there b o n := fun j hj => by
  rw [hb.cell (p := ⟨b, o + j, none⟩) hB, hb.frozen (p := ⟨b, o + j, none⟩) hB]; exact h j hj
theorem below_setCells {B : Nat} {a w : World} (h : Below B a w) {b : Nat} (hb : B ≤ b) (o : Nat) (vs : List Value) : Below B a (w.setCells b o vs) := by
  induction vs generalizing o w with
  | nil => exact h
  | cons v r ih => rw [World.setCells]; exact ih (h.setCell hb v) (o + 1)
theorem results_cell1 {P : Program} {fn : Func} {p : Tmp} {ty : TypeId} (h : fn.results = #[.cell p ty]) {tmps : Array Value} {a : Addr} (hp : tmps.getD p undef = .pointer (some a)) {w : World} {v : Value}
    (hl : (loadVar ty a).run P w = .ok v w) : (results fn tmps).run P w = .ok v w := by
  have hp' : tmps[p]?.getD undef = .pointer (some a) := by simpa using hp
  simp [results, h, hp', asAddr, hl]
theorem ret_row (P : Program) {fn : Func} {p : Tmp} {ty : TypeId} (h : fn.results = #[.cell p ty]) {tmps : Array Value} {b : Nat} (hp : tmps.getD p undef = .pointer (some ⟨b, 0, none⟩)) {W : World} (cs : List Value) {d : TypeDesc}
    (ht : W.there b 0 cs.length) (hu : P.underlying ty = some d) (hd : d.isRow = true) (hi : (P.info? ty).map (·.size) = some cs.length) : (results fn tmps).run P (W.setCells b 0 cs) = .ok (.agg cs.toArray) (W.setCells b 0 cs) :=
  results_cell1 h hp (run_loadVar_mid (P := P) _ _ 0 ty cs _ (World.rangeAt_setCells_same W b 0 cs ht) hu hd hi)
theorem store1 {W : World} {b o n : Nat} (h : W.there b 0 n) (ho : o < n) (x : Nat) : (store ⟨b, o, none⟩ (.float .f64 x)).run Tryz.prog W = .ok () (W.setCell ⟨b, o, none⟩ (.float .f64 x)) := by
  obtain ⟨h1, h2⟩ := h o ho
  rw [Nat.zero_add] at h1 h2
  obtain ⟨v, hv⟩ := Option.isSome_iff_exists.1 h1
  rw [run_store Tryz.prog _ _ _ _ rfl, hv, h2]; rfl
theorem there_set {W : World} {b n : Nat} (h : W.there b 0 n) (p : Addr) (v : Value) : (W.setCell p v).there b 0 n := fun j hj => by
  obtain ⟨h1, h2⟩ := h j hj
  refine ⟨?_, (World.frozen?_setCell ..).trans h2⟩
  obtain ⟨u, hu⟩ := Option.isSome_iff_exists.1 h1
  obtain ⟨v', hv'⟩ := cell?_setCell_some (w := W) (p := p) (x := v) (q := ⟨b, 0 + j, none⟩) (v := u) hu
  rw [hv']; rfl
theorem size26 : (Tryz.prog.info? 26).map (·.size) = some 2 := by kernel_rfl
set_option maxRecDepth 100000 in
theorem c50 (x : Nat) (w : World) (hx : U x) : Calls Tryz.prog 50 #[.float .f64 x] w fun e w' => e = .returned (.agg #[.float .f64 (usedW (numW x)), .int .i64 1]) ∧ Below w.heap.size w w' := by
  have h46 := Lib.hid fun w => c46 x w hx
  have h48 := Lib.hid fun w => c48 (numW x) w (U_numW hx)
  have T := Lib.hid (there_new w #[.float .f64 0, .int .i64 0] 26 2 rfl)
  have B := Lib.hid ((Below.refl w.heap.size w).alloc (Nat.le_refl _) (.cells #[.float .f64 0, .int .i64 0] 26))
  have S := Lib.hid size26
  clear hx
  generalize numW x = y at *
  generalize usedW y = z at *
  have s0 := store1 T.out (show 0 < 2 by decide) z
  have s1 := (there_set T.out ⟨w.heap.size, 0, none⟩ (.float .f64 z)) 1 (show 1 < 2 by decide)
  rw [Nat.zero_add] at s1
  obtain ⟨s1, s2⟩ := s1
  obtain ⟨v1, s1⟩ := Option.isSome_iff_exists.1 s1
  go_enter Tryz.func50, Tryz.ntmps50
  go_wp2_with (first
    | (go_at_call 46; refine (h46.out _).mono ?_; rintro e w2 ⟨rfl, rfl⟩)
    | (go_at_call 48; refine (h48.out _).mono ?_; rintro e w2 ⟨rfl, rfl⟩))
  refine bodyPost_ret (v := .agg #[.float .f64 z, .int .i64 1]) (results_cell1 (p := 2) Tryz.results50 rfl (run_loadVar_mid (P := Tryz.prog) _ _ 0 26 [.float .f64 z, .int .i64 1] _ (range_new w [.float .f64 z, .int .i64 1] 26) Tryz.underlying26 rfl S.out)) rfl ?_
  exact ⟨rfl, (Below.refl w.heap.size w).alloc (Nat.le_refl _) _⟩
set_option maxRecDepth 100000 in
theorem c26 (a b : Nat) (u : Int) (w : World) (ha : U a) (hb : U b) (h : pl a = pl b) : Calls Tryz.prog 26 #[.agg #[.float .f64 a, .int .i64 u], .agg #[.float .f64 b, .int .i64 u]] w fun e w' => e = .returned (.bool true) ∧ Below w.heap.size w w' := by
  have h9 : Hid (∀ w, Calls Tryz.prog 9 #[.float .f64 a, .float .f64 b] w fun e w' => e = .returned (.bool true) ∧ w = w') := Lib.hid fun w => (c9 a b w ha hb).mono fun e w' ⟨h1, h2⟩ => ⟨by rw [h1, h, beq_self_eq_true], h2⟩
  have B := Lib.hid (((Below.refl w.heap.size w).alloc (Nat.le_refl _) (.cells #[.float .f64 a, .int .i64 u] 26)).alloc (by simp) (.cells #[.float .f64 b, .int .i64 u] 26))
  have eu : (u == u) = true := beq_self_eq_true u
  clear ha hb h
  go_enter Tryz.func26, Tryz.ntmps26
  go_wp2_with (go_at_call 9; refine (h9.out _).mono ?_; rintro e w2 ⟨rfl, rfl⟩)
  go_ret
  exact ⟨rfl, B.out⟩
theorem numnum (x : Nat) : numW (numW x) = numW x := by
  show (if isN (numW x) then 0 else numW x) = numW x
  rw [numN, if_neg Bool.false_ne_true]
end Go.Proofs.YtphoggimeaejnaaGreatDoor
