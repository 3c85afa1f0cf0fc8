/- Words for walks over floats whose bits are unsaid: a word and its place; edges of rectangles. What the callees of drawn regions may answer, by places: printed by geo.py. Union and its fellows: walks over drawn regions, printed by geo2.py. Rectangles: galleyref15's Union and Meet, geom's Meet, both Has, SameRect: printed by geo3.py. -/
import Derived.Test.YtedkbjimofiphaaMgAlive
import Derived.Test.YtedkbjimofiphaaAccE
import Derived.Deep.MidRow
namespace Go.Proofs.Ytedkbjimofiphaa
open Go.RowKit Fl
/-- a word of a place -/
def RV (r : Nat) (p : Int) : Prop := U r ∧ pl r = p
theorem RV.self {x : Nat} (h : U x) : RV x (pl x) := ⟨h, rfl⟩
theorem RV.fop {x y : Nat} {P Q : Int} (op : BinOp) (hx : RV x P) (hy : RV y Q) (w : World) : RV (fop op x y w) (opP op P Q) := ⟨U_fop _ _ _ _, by rw [pl_fop op x y w hx.1 hy.1, hx.2, hy.2]⟩
theorem RV.lt {x y : Nat} {P Q : Int} (hx : RV x P) (hy : RV y Q) : (FloatKind.f64.format.order x y == some Ordering.lt) = fltP P Q := by rw [f_lt x y hx.1 hy.1, hx.2, hy.2]
theorem RV.le {x y : Nat} {P Q : Int} (hx : RV x P) (hy : RV y Q) : (FloatKind.f64.format.order x y == some Ordering.lt || FloatKind.f64.format.order x y == some Ordering.eq) = fleP P Q := by rw [f_le x y hx.1 hy.1, hx.2, hy.2]
theorem RV.eq_ {x y : Nat} {P Q : Int} (hx : RV x P) (hy : RV y Q) : (FloatKind.f64.format.order x y == some Ordering.eq) = feqP P Q := by rw [f_eq x y hx.1 hy.1, hx.2, hy.2]
/-- one float is told, by its place -/
def RetR (p : Int) (e : Ending) : Prop := ∃ r, e = .returned (.float .f64 r) ∧ RV r p
/-- four floats, by their places -/
def RetQ (p q r s : Int) (e : Ending) : Prop := ∃ a b c d : Nat, e = .returned (.agg #[.float .f64 a, .float .f64 b, .float .f64 c, .float .f64 d]) ∧ RV a p ∧ RV b q ∧ RV c r ∧ RV d s
theorem k83 {x y : Nat} {P Q : Int} (hx : RV x P) (hy : RV y Q) (w : World) : Calls Try.prog 61 #[.float .f64 x, .float .f64 y] w fun e w' => RetR (minP P Q) e ∧ w = w' := by
  obtain ⟨ux, rfl⟩ := hx
  obtain ⟨uy, rfl⟩ := hy
  exact c83 x y w ux uy
theorem k84 {x y : Nat} {P Q : Int} (hx : RV x P) (hy : RV y Q) (w : World) : Calls Try.prog 62 #[.float .f64 x, .float .f64 y] w fun e w' => RetR (maxP P Q) e ∧ w = w' := by
  obtain ⟨ux, rfl⟩ := hx
  obtain ⟨uy, rfl⟩ := hy
  exact c84 x y w ux uy
theorem k32 {x y : Nat} {P : Int} (hx : RV x P) (hy : RV y P) (w : World) : Calls Try.prog 32 #[.float .f64 x, .float .f64 y] w fun e w' => e = .returned (.bool true) ∧ w = w' :=
  (c32 x y w hx.1 hy.1).mono fun e w' ⟨he, hw⟩ => ⟨by rw [he, hx.2, hy.2, beq_self_eq_true], hw⟩
/-! ### edges -/
def loP (x w : Int) : Int := minP x (opP .add x w)
def hiP (x w : Int) : Int := maxP x (opP .add x w)
set_option maxRecDepth 100000 in
set_option maxHeartbeats 1000000 in
theorem k48 {x y a b : Nat} {X Y A B : Int} (hx : RV x X) (_ : RV y Y) (ha : RV a A) (_ : RV b B) (w : World) :
    Calls Try.prog 82 #[.agg #[.float .f64 x, .float .f64 y, .float .f64 a, .float .f64 b]] w fun e w' => RetR (loP X A) e ∧ Below w.heap.size w w' := by
  have hf := fun w => run_fop (P := Try.prog) .add rfl 31 x a w
  have H := Lib.hid (fun w => RV.fop .add hx ha w)
  have HX := Lib.hid hx
  clear hx ha
  go_enter Try.func82, Try.ntmps82
  go_wp2_with fail
  refine (k83 HX.out (H.out _) _).mono ?_
  rintro e w' ⟨⟨r, rfl, hr⟩, rfl⟩
  have HR := Lib.hid hr
  have HB := Lib.hid (Bd ((Below.refl w.heap.size w).alloc (Nat.le_refl _) (.cells #[.float .f64 x, .float .f64 y, .float .f64 a, .float .f64 b] 33)) (fopN .add x a))
  clear hr
  go_wp2
  go_ret
  exact ⟨⟨r, rfl, HR.out⟩, HB.out⟩
set_option maxRecDepth 100000 in
set_option maxHeartbeats 1000000 in
theorem k49 {x y a b : Nat} {X Y A B : Int} (_ : RV x X) (hx : RV y Y) (_ : RV a A) (ha : RV b B) (w : World) :
    Calls Try.prog 84 #[.agg #[.float .f64 x, .float .f64 y, .float .f64 a, .float .f64 b]] w fun e w' => RetR (loP Y B) e ∧ Below w.heap.size w w' := by
  have hf := fun w => run_fop (P := Try.prog) .add rfl 31 y b w
  have H := Lib.hid (fun w => RV.fop .add hx ha w)
  have HX := Lib.hid hx
  clear hx ha
  go_enter Try.func84, Try.ntmps84
  go_wp2_with fail
  refine (k83 HX.out (H.out _) _).mono ?_
  rintro e w' ⟨⟨r, rfl, hr⟩, rfl⟩
  have HR := Lib.hid hr
  have HB := Lib.hid (Bd ((Below.refl w.heap.size w).alloc (Nat.le_refl _) (.cells #[.float .f64 x, .float .f64 y, .float .f64 a, .float .f64 b] 33)) (fopN .add y b))
  clear hr
  go_wp2
  go_ret
  exact ⟨⟨r, rfl, HR.out⟩, HB.out⟩
set_option maxRecDepth 100000 in
set_option maxHeartbeats 1000000 in
theorem k50 {x y a b : Nat} {X Y A B : Int} (hx : RV x X) (_ : RV y Y) (ha : RV a A) (_ : RV b B) (w : World) :
    Calls Try.prog 83 #[.agg #[.float .f64 x, .float .f64 y, .float .f64 a, .float .f64 b]] w fun e w' => RetR (hiP X A) e ∧ Below w.heap.size w w' := by
  have hf := fun w => run_fop (P := Try.prog) .add rfl 31 x a w
  have H := Lib.hid (fun w => RV.fop .add hx ha w)
  have HX := Lib.hid hx
  clear hx ha
  go_enter Try.func83, Try.ntmps83
  go_wp2_with fail
  refine (k84 HX.out (H.out _) _).mono ?_
  rintro e w' ⟨⟨r, rfl, hr⟩, rfl⟩
  have HR := Lib.hid hr
  have HB := Lib.hid (Bd ((Below.refl w.heap.size w).alloc (Nat.le_refl _) (.cells #[.float .f64 x, .float .f64 y, .float .f64 a, .float .f64 b] 33)) (fopN .add x a))
  clear hr
  go_wp2
  go_ret
  exact ⟨⟨r, rfl, HR.out⟩, HB.out⟩
set_option maxRecDepth 100000 in
set_option maxHeartbeats 1000000 in
theorem k51 {x y a b : Nat} {X Y A B : Int} (_ : RV x X) (hx : RV y Y) (_ : RV a A) (ha : RV b B) (w : World) :
    Calls Try.prog 85 #[.agg #[.float .f64 x, .float .f64 y, .float .f64 a, .float .f64 b]] w fun e w' => RetR (hiP Y B) e ∧ Below w.heap.size w w' := by
  have hf := fun w => run_fop (P := Try.prog) .add rfl 31 y b w
  have H := Lib.hid (fun w => RV.fop .add hx ha w)
  have HX := Lib.hid hx
  clear hx ha
  go_enter Try.func85, Try.ntmps85
  go_wp2_with fail
  refine (k84 HX.out (H.out _) _).mono ?_
  rintro e w' ⟨⟨r, rfl, hr⟩, rfl⟩
  have HR := Lib.hid hr
  have HB := Lib.hid (Bd ((Below.refl w.heap.size w).alloc (Nat.le_refl _) (.cells #[.float .f64 x, .float .f64 y, .float .f64 a, .float .f64 b] 33)) (fopN .add y b))
  clear hr
  go_wp2
  go_ret
  exact ⟨⟨r, rfl, HR.out⟩, HB.out⟩
theorem there_new (w : World) (cs : Array Value) (t : TypeId) (n : Nat) (h : cs.size = n) : (w.alloc (.cells cs t)).there w.heap.size 0 n := fun j hj => by
  rw [Nat.zero_add, World.cell?_alloc_new w cs t j, Array.getElem?_eq_getElem (by omega)]
  exact ⟨rfl, by simp [go_sem]⟩
theorem range_new (w : World) (cs : List Value) (t : TypeId) : (w.alloc (.cells cs.toArray t)).rangeAt w.heap.size 0 cs := fun j v hj => by
  rw [Nat.zero_add, World.cell?_alloc_new w cs.toArray t j, List.getElem?_toArray]; exact hj
theorem range_below {w w' : World} {b o B : Nat} {cs : List Value} (h : w.rangeAt b o cs) (hb : Below B w w') (hB : b < B) : w'.rangeAt b o cs := fun j v hj => (hb.cell (p := ⟨b, o + j, none⟩) hB).trans (h j v hj)
theorem there_below {w w' : World} {b o n B : Nat} (h : w.there b o n) (hb : Below B w w') (hB : b < B) : w'.there b o n := fun j hj => by
  rw [hb.cell (p := ⟨b, o + j, none⟩) hB, hb.frozen (p := ⟨b, o + j, none⟩) hB]; exact h j hj
theorem store1 {W : World} {b o n : Nat} (h : W.there b 0 n) (ho : o < n) (x : Nat) : (store ⟨b, o, none⟩ (.float .f64 x)).run Try.prog W = .ok () (W.setCell ⟨b, o, none⟩ (.float .f64 x)) := by
  obtain ⟨h1, h2⟩ := h o ho
  rw [Nat.zero_add] at h1 h2
  obtain ⟨v, hv⟩ := Option.isSome_iff_exists.1 h1
  rw [run_store Try.prog _ _ _ _ rfl, hv, h2]; rfl
theorem there_set {W : World} {b n : Nat} (h : W.there b 0 n) (p : Addr) (v : Value) : (W.setCell p v).there b 0 n := fun j hj => by
  obtain ⟨h1, h2⟩ := h j hj
  refine ⟨?_, (World.frozen?_setCell ..).trans h2⟩
  obtain ⟨u, hu⟩ := Option.isSome_iff_exists.1 h1
  obtain ⟨v', hv'⟩ := cell?_setCell_some (w := W) (p := p) (x := v) (q := ⟨b, 0 + j, none⟩) (v := u) hu
  rw [hv']; rfl
/-- four floats are stored one by one -/
theorem store4 {W : World} {b : Nat} (h : W.there b 0 4) :
    (∀ x, (store ⟨b, 0, none⟩ (.float .f64 x)).run Try.prog W = .ok () (W.setCell ⟨b, 0, none⟩ (.float .f64 x))) ∧
    (∀ x y, (store ⟨b, 1, none⟩ (.float .f64 y)).run Try.prog (W.setCell ⟨b, 0, none⟩ (.float .f64 x)) = .ok () ((W.setCell ⟨b, 0, none⟩ (.float .f64 x)).setCell ⟨b, 1, none⟩ (.float .f64 y))) ∧
    (∀ x y z, (store ⟨b, 2, none⟩ (.float .f64 z)).run Try.prog ((W.setCell ⟨b, 0, none⟩ (.float .f64 x)).setCell ⟨b, 1, none⟩ (.float .f64 y)) = .ok () (((W.setCell ⟨b, 0, none⟩ (.float .f64 x)).setCell ⟨b, 1, none⟩ (.float .f64 y)).setCell ⟨b, 2, none⟩ (.float .f64 z))) ∧
    (∀ x y z u, (store ⟨b, 3, none⟩ (.float .f64 u)).run Try.prog (((W.setCell ⟨b, 0, none⟩ (.float .f64 x)).setCell ⟨b, 1, none⟩ (.float .f64 y)).setCell ⟨b, 2, none⟩ (.float .f64 z)) =
      .ok () ((((W.setCell ⟨b, 0, none⟩ (.float .f64 x)).setCell ⟨b, 1, none⟩ (.float .f64 y)).setCell ⟨b, 2, none⟩ (.float .f64 z)).setCell ⟨b, 3, none⟩ (.float .f64 u))) :=
  ⟨fun x => store1 h (by decide) x, fun _ y => store1 (there_set h _ _) (by decide) y, fun _ _ z => store1 (there_set (there_set h _ _) _ _) (by decide) z, fun _ _ _ u => store1 (there_set (there_set (there_set h _ _) _ _) _ _) (by decide) u⟩
/-- what a function tells whose result lies in memory -/
theorem ret_row (P : Program) {fn : Func} {p : Tmp} {ty : TypeId} (h : fn.results = #[.cell p ty]) {tmps : Array Value} {b : Nat} (hp : tmps.getD p undef = .pointer (some ⟨b, 0, none⟩)) {W : World} (cs : List Value) {d : TypeDesc}
    (ht : W.there b 0 cs.length) (hu : P.underlying ty = some d) (hd : d.isRow = true) (hi : (P.info? ty).map (·.size) = some cs.length) : (results fn tmps).run P (W.setCells b 0 cs) = .ok (.agg cs.toArray) (W.setCells b 0 cs) :=
  results_cell1 h hp (run_loadVar_mid (P := P) _ _ 0 ty cs _ (World.rangeAt_setCells_same W b 0 cs ht) hu hd hi)
end Go.Proofs.Ytedkbjimofiphaa

namespace Go.Proofs.Ytedkbjimofiphaa
open Go.RowKit Fl
def GEO (f : FuncId) (args : Array Value) (v : Value) : Prop :=
  match f with
  | 82 => ∀ (a0 a1 a2 a3 : Nat), args = #[.agg #[.float .f64 a0, .float .f64 a1, .float .f64 a2, .float .f64 a3]] → ∃ r : Nat, v = .float .f64 r ∧ RV r (loP (pl a0) (pl a2))
  | 84 => ∀ (a0 a1 a2 a3 : Nat), args = #[.agg #[.float .f64 a0, .float .f64 a1, .float .f64 a2, .float .f64 a3]] → ∃ r : Nat, v = .float .f64 r ∧ RV r (loP (pl a1) (pl a3))
  | 83 => ∀ (a0 a1 a2 a3 : Nat), args = #[.agg #[.float .f64 a0, .float .f64 a1, .float .f64 a2, .float .f64 a3]] → ∃ r : Nat, v = .float .f64 r ∧ RV r (hiP (pl a0) (pl a2))
  | 85 => ∀ (a0 a1 a2 a3 : Nat), args = #[.agg #[.float .f64 a0, .float .f64 a1, .float .f64 a2, .float .f64 a3]] → ∃ r : Nat, v = .float .f64 r ∧ RV r (hiP (pl a1) (pl a3))
  | 61 => ∀ (a0 a1 : Nat), args = #[.float .f64 a0, .float .f64 a1] → ∃ r : Nat, v = .float .f64 r ∧ RV r (minP (pl a0) (pl a1))
  | 62 => ∀ (a0 a1 : Nat), args = #[.float .f64 a0, .float .f64 a1] → ∃ r : Nat, v = .float .f64 r ∧ RV r (maxP (pl a0) (pl a1))
  | _ => True
theorem g51 {w0 w : World} {a0 a1 a2 a3 : Nat} {P0 P1 P2 P3 : Int} (h0 : RV a0 P0) (h1 : RV a1 P1) (h2 : RV a2 P2) (h3 : RV a3 P3) (hw : Below w0.heap.size w0 w) : Calls Try.prog 85 #[.agg #[.float .f64 a0, .float .f64 a1, .float .f64 a2, .float .f64 a3]] w fun e w' => ∃ v, e = .returned v ∧ GEO 85 #[.agg #[.float .f64 a0, .float .f64 a1, .float .f64 a2, .float .f64 a3]] v ∧ Below w0.heap.size w0 w' :=
  (k51 (RV.self h0.1) (RV.self h1.1) (RV.self h2.1) (RV.self h3.1) w).mono fun e w' ⟨⟨r, he, hr⟩, hb⟩ => ⟨_, he, fun ba0 ba1 ba2 ba3 hh => by cases hh; exact ⟨r, rfl, hr⟩, below_trans hw hb⟩
theorem g83 {w0 w : World} {a0 a1 : Nat} {P0 P1 : Int} (h0 : RV a0 P0) (h1 : RV a1 P1) (hw : Below w0.heap.size w0 w) : Calls Try.prog 61 #[.float .f64 a0, .float .f64 a1] w fun e w' => ∃ v, e = .returned v ∧ GEO 61 #[.float .f64 a0, .float .f64 a1] v ∧ Below w0.heap.size w0 w' :=
  (k83 (RV.self h0.1) (RV.self h1.1) w).mono fun e w' ⟨⟨r, he, hr⟩, hb⟩ => ⟨_, he, fun ba0 ba1 hh => by cases hh; exact ⟨r, rfl, hr⟩, by subst hb; exact hw⟩
theorem G83 {a0 a1 : Nat} {P0 P1 : Int} {v : Value} (hv : GEO 61 #[.float .f64 a0, .float .f64 a1] v) (h0 : RV a0 P0) (h1 : RV a1 P1) : ∃ r : Nat, v = .float .f64 r ∧ RV r (minP P0 P1) := by
  obtain ⟨_, rfl⟩ := h0
  obtain ⟨_, rfl⟩ := h1
  exact hv _ _ rfl
theorem g84 {w0 w : World} {a0 a1 : Nat} {P0 P1 : Int} (h0 : RV a0 P0) (h1 : RV a1 P1) (hw : Below w0.heap.size w0 w) : Calls Try.prog 62 #[.float .f64 a0, .float .f64 a1] w fun e w' => ∃ v, e = .returned v ∧ GEO 62 #[.float .f64 a0, .float .f64 a1] v ∧ Below w0.heap.size w0 w' :=
  (k84 (RV.self h0.1) (RV.self h1.1) w).mono fun e w' ⟨⟨r, he, hr⟩, hb⟩ => ⟨_, he, fun ba0 ba1 hh => by cases hh; exact ⟨r, rfl, hr⟩, by subst hb; exact hw⟩
theorem G84 {a0 a1 : Nat} {P0 P1 : Int} {v : Value} (hv : GEO 62 #[.float .f64 a0, .float .f64 a1] v) (h0 : RV a0 P0) (h1 : RV a1 P1) : ∃ r : Nat, v = .float .f64 r ∧ RV r (maxP P0 P1) := by
  obtain ⟨_, rfl⟩ := h0
  obtain ⟨_, rfl⟩ := h1
  exact hv _ _ rfl
section
variable {P : Program} {ops : Array Oper} {G : FuncId → Array Value → Value → Prop} {Q : Act → Prop} {rest : List Oper} {a : Act}
variable {dst : Option Tmp} {T : TypeId} {pos : String} {af : Array Edge} {gd : Option (Nat × Bool)}
/-- a float's operation in a drawn region: its bits unsaid -/
theorem rel_fop {w0 : World} {op : BinOp} (ho : four op = true) {t t2 : TypeId} {x y : Operand} {p q : Nat} {A B : Int} (hx : a.eval x = .float .f64 p) (hy : a.eval y = .float .f64 q) (hp : RV p A) (hq : RV q B)
    (hw : Region.wanted ⟨dst, .binOp op t x y t2, T, pos, af, gd⟩ (yielded ops a.tmps) = true) (k : ∀ r, RV r (opP op A B) → wpRel P ops (fun w => Below w0.heap.size w0 w) G Q rest (a.put dst (.float .f64 r))) :
    wpRel P ops (fun w => Below w0.heap.size w0 w) G Q (⟨dst, .binOp op t x y t2, T, pos, af, gd⟩ :: rest) a := by
  refine rel_set (R := fun v => ∃ r, v = .float .f64 r ∧ RV r (opP op A B)) hw (fun w hc => ⟨.float .f64 (fop op p q w), w.drewN (fopN op p q), ?_, Bd hc _, ⟨_, rfl, RV.fop op hp hq w⟩⟩) (fun v ⟨r, hv, hr⟩ => by subst hv; exact k r hr)
  have h := run_fop (P := P) op ho t p q w
  have hg : eqGuard op t x y (.float .f64 p) (.float .f64 q) = pure () := by
    cases op <;> first | rfl | (cases ho)
  unfold execOp
  simp only [hx, hy, hg, Sem.run_bind, Sem.run_pure, Result.andThen_ok, h]
/-- a float loaded in a drawn region -/
theorem rel_loadF {C : World → Prop} {x : Operand} (b o r : Nat) (hx : a.eval x = .pointer (some ⟨b, o, none⟩)) (hw : Region.wanted ⟨dst, .load 31 x, T, pos, af, gd⟩ (yielded ops a.tmps) = true)
    (hS : ∀ w, C w → w.cell? ⟨b, 0 + o, none⟩ = some (.float .f64 r)) (k : wpRel Try.prog ops C G Q rest (a.put dst (.float .f64 r))) : wpRel Try.prog ops C G Q (⟨dst, .load 31 x, T, pos, af, gd⟩ :: rest) a :=
  rel_val hw (fun w hc => by
    have h := hS w hc
    rw [Nat.zero_add] at h
    unfold execOp
    simp only [hx]
    go_simp) k
end
theorem wp_gen {P : Program} {c : Code} {Q : Exit → Act → World → Prop} {a : Act} {w : World} (R : World → Prop) (h : R w) (k : ∀ wx, R wx → c.wp P Q a wx) : c.wp P Q a w := k w h
end Go.Proofs.Ytedkbjimofiphaa

namespace Go.Proofs.Ytedkbjimofiphaa
open Go.RowKit Fl
/-- two boxed rows and a block for what is told -/
structure Two (wx w : World) (A B : List Value) (n : Nat) : Prop where
  r1 : wx.rangeAt w.heap.size 0 A
  r2 : wx.rangeAt (w.heap.size + 1) 0 B
  t : wx.there (w.heap.size + 1 + 1) 0 n
  b : Below w.heap.size w wx
  lt : w.heap.size + 1 + 1 < wx.heap.size
theorem two_entry (w : World) (A B : List Value) (O : Array Value) (t1 t2 t3 : TypeId) (n : Nat) (h : O.size = n) :
    Two (((w.alloc (.cells A.toArray t1)).alloc (.cells B.toArray t2)).alloc (.cells O t3)) w A B n := by
  have e1 : (w.alloc (.cells A.toArray t1)).heap.size = w.heap.size + 1 := by simp
  have e2 : ((w.alloc (.cells A.toArray t1)).alloc (.cells B.toArray t2)).heap.size = w.heap.size + 1 + 1 := by simp
  refine ⟨World.rangeAt_alloc (World.rangeAt_alloc (range_new w A t1) _) _, ?_, ?_, ?_, by simp⟩
  · have := World.rangeAt_alloc (range_new (w.alloc (.cells A.toArray t1)) B t2) (.cells O t3)
    rwa [e1] at this
  · have := there_new ((w.alloc (.cells A.toArray t1)).alloc (.cells B.toArray t2)) O t3 n h
    rwa [e2] at this
  · exact (((Below.refl _ _).alloc (Nat.le_refl _) _).alloc (by simp) _).alloc (by simp; omega) _
structure One (wx w : World) (A : List Value) (n : Nat) : Prop where
  r1 : wx.rangeAt w.heap.size 0 A
  t : wx.there (w.heap.size + 1) 0 n
  b : Below w.heap.size w wx
  lt : w.heap.size + 1 < wx.heap.size
theorem one_entry (w : World) (A : List Value) (O : Array Value) (t1 t3 : TypeId) (n : Nat) (h : O.size = n) : One ((w.alloc (.cells A.toArray t1)).alloc (.cells O t3)) w A n := by
  have e1 : (w.alloc (.cells A.toArray t1)).heap.size = w.heap.size + 1 := by simp
  refine ⟨World.rangeAt_alloc (range_new w A t1) _, ?_, ?_, by simp⟩
  · have := there_new (w.alloc (.cells A.toArray t1)) O t3 n h
    rwa [e1] at this
  · exact ((Below.refl _ _).alloc (Nat.le_refl _) _).alloc (by simp) _
end Go.Proofs.Ytedkbjimofiphaa

namespace Go.Proofs.Ytedkbjimofiphaa
open Go.RowKit Fl
theorem cells4 {w : World} {b : Nat} {v0 v1 v2 v3 : Value} (h : w.rangeAt b 0 [v0, v1, v2, v3]) : w.cell? ⟨b, 0, none⟩ = some v0 ∧ w.cell? ⟨b, 1, none⟩ = some v1 ∧ w.cell? ⟨b, 2, none⟩ = some v2 ∧ w.cell? ⟨b, 3, none⟩ = some v3 :=
  ⟨h 0 v0 rfl, by have := h 1 v1 rfl; rwa [Nat.zero_add] at this, by have := h 2 v2 rfl; rwa [Nat.zero_add] at this, by have := h 3 v3 rfl; rwa [Nat.zero_add] at this⟩
theorem two_below {wx wy w : World} {A B : List Value} {n : Nat} (h : Two wx w A B n) (hb : Below wx.heap.size wx wy) : Two wy w A B n :=
  ⟨range_below h.r1 hb (by have := h.lt; omega), range_below h.r2 hb (by have := h.lt; omega), there_below h.t hb h.lt, h.b.trans (hb.mono (by have := h.lt; omega)), Nat.lt_of_lt_of_le h.lt hb.size⟩
theorem alloc_below (w2 : World) (O : Obj) : Below w2.heap.size w2 (w2.alloc O) := (Below.refl _ _).alloc (Nat.le_refl _) O
end Go.Proofs.Ytedkbjimofiphaa
