/- Invert's calls, six loads and a call at once: printed by geo23.py. -/
import Derived.Test.YtelalledjbeenaaMgInvR
namespace Go.Proofs.Ytelalledjbeenaa
open Go.RowKit Fl

def GInv (f : FuncId) (args : Array Value) (v : Value) : Prop :=
  match f with
  | 157 => ∀ a b c x y z : Nat, args = #[.float .f64 a, .float .f64 b, .float .f64 c, .float .f64 x, .float .f64 y, .float .f64 z] → ∃ r : Nat, v = .float .f64 r ∧ RV r (upP (pl a) (pl b) (pl c) (pl x) (pl y) (pl z))
  | 159 => ∀ a b c x y z : Nat, args = #[.float .f64 a, .float .f64 b, .float .f64 c, .float .f64 x, .float .f64 y, .float .f64 z] → ∃ r : Nat, v = .float .f64 r ∧ RV r (downP (pl a) (pl b) (pl c) (pl x) (pl y) (pl z))
  | 161 => ∀ (a b c x y z : Nat) (k : Int), args = #[.float .f64 a, .float .f64 b, .float .f64 c, .float .f64 x, .float .f64 y, .float .f64 z, .int .i64 k] → ∃ r : Nat, v = .float .f64 r ∧ RV r (if 0 < k then upP (pl a) (pl b) (pl c) (pl x) (pl y) (pl z) else downP (pl a) (pl b) (pl c) (pl x) (pl y) (pl z))
  | _ => True

theorem gi157 {a b c x y z : Nat} {A B C X Y Z : Int} (h0 : RV a A) (h1 : RV b B) (h2 : RV c C) (h3 : RV x X) (h4 : RV y Y) (h5 : RV z Z) (w : World) :
    Calls Try.prog 157 #[.float .f64 a, .float .f64 b, .float .f64 c, .float .f64 x, .float .f64 y, .float .f64 z] w fun e w' => ∃ v, e = .returned v ∧ GInv 157 #[.float .f64 a, .float .f64 b, .float .f64 c, .float .f64 x, .float .f64 y, .float .f64 z] v ∧ Below w.heap.size w w' :=
  (k157 (RV.self h0.1) (RV.self h1.1) (RV.self h2.1) (RV.self h3.1) (RV.self h4.1) (RV.self h5.1) w).mono fun e w' ⟨⟨r, he, hr⟩, n, hb⟩ => ⟨_, he, fun a b c x y z hh => by cases hh; exact ⟨r, rfl, hr⟩, by rw [hb]; exact Bd (Below.refl _ _) n⟩
theorem Gi157 {a b c x y z : Nat} {A B C X Y Z : Int} {v : Value} (hv : GInv 157 #[.float .f64 a, .float .f64 b, .float .f64 c, .float .f64 x, .float .f64 y, .float .f64 z] v) (h0 : RV a A) (h1 : RV b B) (h2 : RV c C) (h3 : RV x X) (h4 : RV y Y) (h5 : RV z Z) : ∃ r : Nat, v = .float .f64 r ∧ RV r (upP A B C X Y Z) := by
  obtain ⟨_, rfl⟩ := h0
  obtain ⟨_, rfl⟩ := h1
  obtain ⟨_, rfl⟩ := h2
  obtain ⟨_, rfl⟩ := h3
  obtain ⟨_, rfl⟩ := h4
  obtain ⟨_, rfl⟩ := h5
  exact hv _ _ _ _ _ _ rfl
theorem gi159 {a b c x y z : Nat} {A B C X Y Z : Int} (h0 : RV a A) (h1 : RV b B) (h2 : RV c C) (h3 : RV x X) (h4 : RV y Y) (h5 : RV z Z) (w : World) :
    Calls Try.prog 159 #[.float .f64 a, .float .f64 b, .float .f64 c, .float .f64 x, .float .f64 y, .float .f64 z] w fun e w' => ∃ v, e = .returned v ∧ GInv 159 #[.float .f64 a, .float .f64 b, .float .f64 c, .float .f64 x, .float .f64 y, .float .f64 z] v ∧ Below w.heap.size w w' :=
  (k159 (RV.self h0.1) (RV.self h1.1) (RV.self h2.1) (RV.self h3.1) (RV.self h4.1) (RV.self h5.1) w).mono fun e w' ⟨⟨r, he, hr⟩, n, hb⟩ => ⟨_, he, fun a b c x y z hh => by cases hh; exact ⟨r, rfl, hr⟩, by rw [hb]; exact Bd (Below.refl _ _) n⟩
theorem Gi159 {a b c x y z : Nat} {A B C X Y Z : Int} {v : Value} (hv : GInv 159 #[.float .f64 a, .float .f64 b, .float .f64 c, .float .f64 x, .float .f64 y, .float .f64 z] v) (h0 : RV a A) (h1 : RV b B) (h2 : RV c C) (h3 : RV x X) (h4 : RV y Y) (h5 : RV z Z) : ∃ r : Nat, v = .float .f64 r ∧ RV r (downP A B C X Y Z) := by
  obtain ⟨_, rfl⟩ := h0
  obtain ⟨_, rfl⟩ := h1
  obtain ⟨_, rfl⟩ := h2
  obtain ⟨_, rfl⟩ := h3
  obtain ⟨_, rfl⟩ := h4
  obtain ⟨_, rfl⟩ := h5
  exact hv _ _ _ _ _ _ rfl
theorem gi161u {a b c x y z : Nat} {A B C X Y Z : Int} (h0 : RV a A) (h1 : RV b B) (h2 : RV c C) (h3 : RV x X) (h4 : RV y Y) (h5 : RV z Z) (w : World) :
    Calls Try.prog 161 #[.float .f64 a, .float .f64 b, .float .f64 c, .float .f64 x, .float .f64 y, .float .f64 z, .int .i64 1] w fun e w' => ∃ v, e = .returned v ∧ GInv 161 #[.float .f64 a, .float .f64 b, .float .f64 c, .float .f64 x, .float .f64 y, .float .f64 z, .int .i64 1] v ∧ Below w.heap.size w w' :=
  (k161u (RV.self h0.1) (RV.self h1.1) (RV.self h2.1) (RV.self h3.1) (RV.self h4.1) (RV.self h5.1) w).mono fun e w' ⟨⟨r, he, hr⟩, n, hb⟩ => ⟨_, he, fun a b c x y z k hh => by cases hh; exact ⟨r, rfl, by rw [if_pos (by decide)]; exact hr⟩, by rw [hb]; exact Bd (Below.refl _ _) n⟩
theorem Gi161u {a b c x y z : Nat} {A B C X Y Z : Int} {v : Value} (hv : GInv 161 #[.float .f64 a, .float .f64 b, .float .f64 c, .float .f64 x, .float .f64 y, .float .f64 z, .int .i64 1] v) (h0 : RV a A) (h1 : RV b B) (h2 : RV c C) (h3 : RV x X) (h4 : RV y Y) (h5 : RV z Z) : ∃ r : Nat, v = .float .f64 r ∧ RV r (upP A B C X Y Z) := by
  obtain ⟨_, rfl⟩ := h0
  obtain ⟨_, rfl⟩ := h1
  obtain ⟨_, rfl⟩ := h2
  obtain ⟨_, rfl⟩ := h3
  obtain ⟨_, rfl⟩ := h4
  obtain ⟨_, rfl⟩ := h5
  exact hv _ _ _ _ _ _ _ rfl
theorem gi161d {a b c x y z : Nat} {A B C X Y Z : Int} (h0 : RV a A) (h1 : RV b B) (h2 : RV c C) (h3 : RV x X) (h4 : RV y Y) (h5 : RV z Z) (w : World) :
    Calls Try.prog 161 #[.float .f64 a, .float .f64 b, .float .f64 c, .float .f64 x, .float .f64 y, .float .f64 z, .int .i64 (-1)] w fun e w' => ∃ v, e = .returned v ∧ GInv 161 #[.float .f64 a, .float .f64 b, .float .f64 c, .float .f64 x, .float .f64 y, .float .f64 z, .int .i64 (-1)] v ∧ Below w.heap.size w w' :=
  (k161d (RV.self h0.1) (RV.self h1.1) (RV.self h2.1) (RV.self h3.1) (RV.self h4.1) (RV.self h5.1) w).mono fun e w' ⟨⟨r, he, hr⟩, n, hb⟩ => ⟨_, he, fun a b c x y z k hh => by cases hh; exact ⟨r, rfl, by rw [if_neg (by decide)]; exact hr⟩, by rw [hb]; exact Bd (Below.refl _ _) n⟩
theorem Gi161d {a b c x y z : Nat} {A B C X Y Z : Int} {v : Value} (hv : GInv 161 #[.float .f64 a, .float .f64 b, .float .f64 c, .float .f64 x, .float .f64 y, .float .f64 z, .int .i64 (-1)] v) (h0 : RV a A) (h1 : RV b B) (h2 : RV c C) (h3 : RV x X) (h4 : RV y Y) (h5 : RV z Z) : ∃ r : Nat, v = .float .f64 r ∧ RV r (downP A B C X Y Z) := by
  obtain ⟨_, rfl⟩ := h0
  obtain ⟨_, rfl⟩ := h1
  obtain ⟨_, rfl⟩ := h2
  obtain ⟨_, rfl⟩ := h3
  obtain ⟨_, rfl⟩ := h4
  obtain ⟨_, rfl⟩ := h5
  exact hv _ _ _ _ _ _ _ rfl
/-- the first k of sixteen words are divided -/
def DivS (f : Nat → Int) (D : Int) (os : List Nat) (k : Nat) : Prop := os.length = 16 ∧ ∀ j, j < 16 → RV (os.getD j 0) (if j < k then opP .quo (f j) D else f j)
theorem div_step {f : Nat → Int} {D : Int} {os : List Nat} {k r : Nat} (h : DivS f D os k) (hk : k < 16) (hr : RV r (opP .quo (f k) D)) : DivS f D (os.set k r) (k + 1) :=
  ⟨by rw [List.length_set]; exact h.1, fun j hj => by
    by_cases hjc : j = k
    · subst hjc
      rw [List.getD_eq_getElem?_getD, List.getElem?_set_self (by rw [h.1]; exact hk), if_pos (by omega)]
      exact hr
    · rw [List.getD_eq_getElem?_getD, List.getElem?_set_ne (fun e => hjc e.symm), ← List.getD_eq_getElem?_getD]
      have := h.2 j hj
      by_cases hl : j < k
      · rw [if_pos (by omega)]; rwa [if_pos hl] at this
      · rw [if_neg (by omega)]; rwa [if_neg hl] at this⟩
theorem div_get {f : Nat → Int} {D : Int} {os : List Nat} {k : Nat} (h : DivS f D os k) (hk : k < 16) : ∃ x, os[k]? = some x ∧ RV x (f k) := by
  have hl : k < os.length := by rw [h.1]; exact hk
  have := h.2 k hk
  rw [if_neg (by omega), List.getD_eq_getElem?_getD, List.getElem?_eq_getElem hl] at this
  exact ⟨_, List.getElem?_eq_getElem hl, this⟩
theorem div_end {f : Nat → Int} {D : Int} {os : List Nat} (h : DivS f D os 16) : MU os ∧ ∀ j, j < 16 → mp os j = opP .quo (f j) D :=
  pl_MU ⟨h.1, fun j hj => by have := h.2 j hj; rwa [if_pos hj] at this⟩
structure IW (wx w : World) (A : List Value) (g : Nat) (os : List Nat) : Prop where
  o : One wx w A 16
  r : wx.rangeAt g 0 (os.map (Value.float .f64))
  t : wx.there g 0 16
  l : w.heap.size + 1 < g ∧ g < wx.heap.size
theorem iw_below {wx wy w : World} {A : List Value} {g : Nat} {os : List Nat} (h : IW wx w A g os) (hb : Below wx.heap.size wx wy) : IW wy w A g os :=
  ⟨one_below h.o hb, range_below h.r hb h.l.2, there_below h.t hb h.l.2, h.l.1, Nat.lt_of_lt_of_le h.l.2 hb.size⟩
theorem iw_set {wx w : World} {A : List Value} {g : Nat} {os : List Nat} (h : IW wx w A g os) (k x : Nat) : IW (wx.setCell ⟨g, k, none⟩ (.float .f64 x)) w A g (os.set k x) := by
  have hb : Below g wx (wx.setCell ⟨g, k, none⟩ (.float .f64 x)) := (Below.refl g wx).setCell (p := ⟨g, k, none⟩) (Nat.le_refl _) _
  have hl := h.l
  exact ⟨⟨range_below h.o.r1 hb (by omega), there_below h.o.t hb (by omega), h.o.b.setCell (by simp; omega) _, Nat.lt_of_lt_of_le h.o.lt hb.size⟩, range_set h.r x, there_set h.t _ _, h.l.1, Nat.lt_of_lt_of_le h.l.2 hb.size⟩
theorem iw_drew {wx w : World} {A : List Value} {g : Nat} {os : List Nat} (h : IW wx w A g os) (n : Nat) : IW (wx.drewN n) w A g os := iw_below h (Bd (Below.refl _ _) n)


section
variable {ops : Array Oper} {C : World → Prop} {D : Nat → Option Nat} {Q : Act → Prop} {rest : List Oper} {a : Act}
theorem ch161u {s bb bm bq i0 j0 i1 j1 i2 j2 x0 y0 x1 y1 x2 y2 : Nat} {X0 Y0 X1 Y1 X2 Y2 : Int} {z0 u0 z1 u1 z2 u2 : Int} {T0 T1 T2 T3 T4 T5 T6 T7 T8 T9 T10 T11 T12 : TypeId} {p0 p1 p2 p3 p4 p5 p6 p7 p8 p9 p10 p11 p12 : String} {f0 f1 f2 f3 f4 f5 f6 f7 f8 f9 f10 f11 f12 : Array Edge} {tys : Array TypeId}
    (hm : a.tmps.getD 1 undef = .pointer (some ⟨bm, 0, none⟩)) (hq : a.tmps.getD bb undef = .pointer (some ⟨bq, 0, none⟩)) (h1 : 1 < s) (hbb : bb < s) (hs : s + 12 < a.tmps.size) (hD : ∀ t, s ≤ t → t < s + 13 → D t = none)
    (e0 : z0 = (i0 : Int) ∧ i0 < 16) (e1 : u0 = (j0 : Int) ∧ j0 < 6) (e2 : z1 = (i1 : Int) ∧ i1 < 16) (e3 : u1 = (j1 : Int) ∧ j1 < 6) (e4 : z2 = (i2 : Int) ∧ i2 < 16) (e5 : u2 = (j2 : Int) ∧ j2 < 6)
    (c0 : ∀ w, C w → w.cell? ⟨bm, 0 + i0, none⟩ = some (.float .f64 x0)) (c1 : ∀ w, C w → w.cell? ⟨bq, 0 + j0, none⟩ = some (.float .f64 y0))
    (c2 : ∀ w, C w → w.cell? ⟨bm, 0 + i1, none⟩ = some (.float .f64 x1)) (c3 : ∀ w, C w → w.cell? ⟨bq, 0 + j1, none⟩ = some (.float .f64 y1))
    (c4 : ∀ w, C w → w.cell? ⟨bm, 0 + i2, none⟩ = some (.float .f64 x2)) (c5 : ∀ w, C w → w.cell? ⟨bq, 0 + j2, none⟩ = some (.float .f64 y2))
    (r0 : RV x0 X0) (r1 : RV y0 Y0) (r2 : RV x1 X1) (r3 : RV y1 Y1) (r4 : RV x2 X2) (r5 : RV y2 Y2)
    (k : ∀ r a', Ext a a' s → a'.tmps.getD (s + 12) undef = .float .f64 r → RV r (upP X0 Y0 X1 Y1 X2 Y2) → RB.wpRel Try.prog ops C GInv (RB.SA D) Q rest a') :
    RB.wpRel Try.prog ops C GInv (RB.SA D) Q (⟨some s, .indexAddr 80 (.tmp 1) (.const (.int .i64 z0)), T0, p0, f0, none⟩ :: ⟨some (s + 1), .load 24 (.tmp s), T1, p1, f1, none⟩ ::
      ⟨some (s + 2), .indexAddr 152 (.tmp bb) (.const (.int .i64 u0)), T2, p2, f2, none⟩ :: ⟨some (s + 3), .load 24 (.tmp (s + 2)), T3, p3, f3, none⟩ ::
      ⟨some (s + 4), .indexAddr 80 (.tmp 1) (.const (.int .i64 z1)), T4, p4, f4, none⟩ :: ⟨some (s + 5), .load 24 (.tmp (s + 4)), T5, p5, f5, none⟩ ::
      ⟨some (s + 6), .indexAddr 152 (.tmp bb) (.const (.int .i64 u1)), T6, p6, f6, none⟩ :: ⟨some (s + 7), .load 24 (.tmp (s + 6)), T7, p7, f7, none⟩ ::
      ⟨some (s + 8), .indexAddr 80 (.tmp 1) (.const (.int .i64 z2)), T8, p8, f8, none⟩ :: ⟨some (s + 9), .load 24 (.tmp (s + 8)), T9, p9, f9, none⟩ ::
      ⟨some (s + 10), .indexAddr 152 (.tmp bb) (.const (.int .i64 u2)), T10, p10, f10, none⟩ :: ⟨some (s + 11), .load 24 (.tmp (s + 10)), T11, p11, f11, none⟩ ::
      ⟨some (s + 12), .call { callee := .value (.func 161), args := #[.tmp (s + 1), .tmp (s + 3), .tmp (s + 5), .tmp (s + 7), .tmp (s + 9), .tmp (s + 11), .const (.int .i64 1)], argTypes := tys }, T12, p12, f12, none⟩ :: rest) a := by
  refine pairs6 hm hq h1 hbb (by omega) (fun t h h' => hD t h (by omega)) e0 e1 e2 e3 e4 e5 c0 c1 c2 c3 c4 c5 (fun a' E v0 v1 v2 v3 v4 v5 => ?_)
  have hz := E.size

  refine RB.rel_call (f := 161) (args := #[.float .f64 x0, .float .f64 y0, .float .f64 x1, .float .f64 y1, .float .f64 x2, .float .f64 y2, .int .i64 1]) rfl (hD (s + 12) (by omega) (by omega)) (fun w' hw => ?_) (fun w' hw => gi161u r0 r1 r2 r3 r4 r5 w') (fun v hv => ?_)
  · unfold execOp
    simp only [Act.eval, List.map_toArray, List.map_cons, List.map_nil, v0, v1, v2, v3, v4, v5]
    go_simp
  obtain ⟨r, rfl, hr⟩ := Gi161u hv r0 r1 r2 r3 r4 r5
  exact k r _ (E.trans (Ext.put (Nat.le_refl _) _) (by omega)) (at_put (by omega) _) hr
theorem ch161d {s bb bm bq i0 j0 i1 j1 i2 j2 x0 y0 x1 y1 x2 y2 : Nat} {X0 Y0 X1 Y1 X2 Y2 : Int} {z0 u0 z1 u1 z2 u2 : Int} {T0 T1 T2 T3 T4 T5 T6 T7 T8 T9 T10 T11 T12 : TypeId} {p0 p1 p2 p3 p4 p5 p6 p7 p8 p9 p10 p11 p12 : String} {f0 f1 f2 f3 f4 f5 f6 f7 f8 f9 f10 f11 f12 : Array Edge} {tys : Array TypeId}
    (hm : a.tmps.getD 1 undef = .pointer (some ⟨bm, 0, none⟩)) (hq : a.tmps.getD bb undef = .pointer (some ⟨bq, 0, none⟩)) (h1 : 1 < s) (hbb : bb < s) (hs : s + 12 < a.tmps.size) (hD : ∀ t, s ≤ t → t < s + 13 → D t = none)
    (e0 : z0 = (i0 : Int) ∧ i0 < 16) (e1 : u0 = (j0 : Int) ∧ j0 < 6) (e2 : z1 = (i1 : Int) ∧ i1 < 16) (e3 : u1 = (j1 : Int) ∧ j1 < 6) (e4 : z2 = (i2 : Int) ∧ i2 < 16) (e5 : u2 = (j2 : Int) ∧ j2 < 6)
    (c0 : ∀ w, C w → w.cell? ⟨bm, 0 + i0, none⟩ = some (.float .f64 x0)) (c1 : ∀ w, C w → w.cell? ⟨bq, 0 + j0, none⟩ = some (.float .f64 y0))
    (c2 : ∀ w, C w → w.cell? ⟨bm, 0 + i1, none⟩ = some (.float .f64 x1)) (c3 : ∀ w, C w → w.cell? ⟨bq, 0 + j1, none⟩ = some (.float .f64 y1))
    (c4 : ∀ w, C w → w.cell? ⟨bm, 0 + i2, none⟩ = some (.float .f64 x2)) (c5 : ∀ w, C w → w.cell? ⟨bq, 0 + j2, none⟩ = some (.float .f64 y2))
    (r0 : RV x0 X0) (r1 : RV y0 Y0) (r2 : RV x1 X1) (r3 : RV y1 Y1) (r4 : RV x2 X2) (r5 : RV y2 Y2)
    (k : ∀ r a', Ext a a' s → a'.tmps.getD (s + 12) undef = .float .f64 r → RV r (downP X0 Y0 X1 Y1 X2 Y2) → RB.wpRel Try.prog ops C GInv (RB.SA D) Q rest a') :
    RB.wpRel Try.prog ops C GInv (RB.SA D) Q (⟨some s, .indexAddr 80 (.tmp 1) (.const (.int .i64 z0)), T0, p0, f0, none⟩ :: ⟨some (s + 1), .load 24 (.tmp s), T1, p1, f1, none⟩ ::
      ⟨some (s + 2), .indexAddr 152 (.tmp bb) (.const (.int .i64 u0)), T2, p2, f2, none⟩ :: ⟨some (s + 3), .load 24 (.tmp (s + 2)), T3, p3, f3, none⟩ ::
      ⟨some (s + 4), .indexAddr 80 (.tmp 1) (.const (.int .i64 z1)), T4, p4, f4, none⟩ :: ⟨some (s + 5), .load 24 (.tmp (s + 4)), T5, p5, f5, none⟩ ::
      ⟨some (s + 6), .indexAddr 152 (.tmp bb) (.const (.int .i64 u1)), T6, p6, f6, none⟩ :: ⟨some (s + 7), .load 24 (.tmp (s + 6)), T7, p7, f7, none⟩ ::
      ⟨some (s + 8), .indexAddr 80 (.tmp 1) (.const (.int .i64 z2)), T8, p8, f8, none⟩ :: ⟨some (s + 9), .load 24 (.tmp (s + 8)), T9, p9, f9, none⟩ ::
      ⟨some (s + 10), .indexAddr 152 (.tmp bb) (.const (.int .i64 u2)), T10, p10, f10, none⟩ :: ⟨some (s + 11), .load 24 (.tmp (s + 10)), T11, p11, f11, none⟩ ::
      ⟨some (s + 12), .call { callee := .value (.func 161), args := #[.tmp (s + 1), .tmp (s + 3), .tmp (s + 5), .tmp (s + 7), .tmp (s + 9), .tmp (s + 11), .const (.int .i64 (-1))], argTypes := tys }, T12, p12, f12, none⟩ :: rest) a := by
  refine pairs6 hm hq h1 hbb (by omega) (fun t h h' => hD t h (by omega)) e0 e1 e2 e3 e4 e5 c0 c1 c2 c3 c4 c5 (fun a' E v0 v1 v2 v3 v4 v5 => ?_)
  have hz := E.size

  refine RB.rel_call (f := 161) (args := #[.float .f64 x0, .float .f64 y0, .float .f64 x1, .float .f64 y1, .float .f64 x2, .float .f64 y2, .int .i64 (-1)]) rfl (hD (s + 12) (by omega) (by omega)) (fun w' hw => ?_) (fun w' hw => gi161d r0 r1 r2 r3 r4 r5 w') (fun v hv => ?_)
  · unfold execOp
    simp only [Act.eval, List.map_toArray, List.map_cons, List.map_nil, v0, v1, v2, v3, v4, v5]
    go_simp
  obtain ⟨r, rfl, hr⟩ := Gi161d hv r0 r1 r2 r3 r4 r5
  exact k r _ (E.trans (Ext.put (Nat.le_refl _) _) (by omega)) (at_put (by omega) _) hr
theorem ch157 {s m bb bm bq i0 j0 i1 j1 i2 j2 x0 y0 x1 y1 x2 y2 : Nat} {X0 Y0 X1 Y1 X2 Y2 : Int} {z0 u0 z1 u1 z2 u2 : Int} {T0 T1 T2 T3 T4 T5 T6 T7 T8 T9 T10 T11 T12 : TypeId} {p0 p1 p2 p3 p4 p5 p6 p7 p8 p9 p10 p11 p12 : String} {f0 f1 f2 f3 f4 f5 f6 f7 f8 f9 f10 f11 f12 : Array Edge} {tys : Array TypeId}
    (hm : a.tmps.getD 1 undef = .pointer (some ⟨bm, 0, none⟩)) (hq : a.tmps.getD bb undef = .pointer (some ⟨bq, 0, none⟩)) (hf : a.tmps.getD m undef = .func (.func 157) #[] #[]) (hms : m < s) (h1 : 1 < s) (hbb : bb < s) (hs : s + 12 < a.tmps.size) (hD : ∀ t, s ≤ t → t < s + 13 → D t = none)
    (e0 : z0 = (i0 : Int) ∧ i0 < 16) (e1 : u0 = (j0 : Int) ∧ j0 < 6) (e2 : z1 = (i1 : Int) ∧ i1 < 16) (e3 : u1 = (j1 : Int) ∧ j1 < 6) (e4 : z2 = (i2 : Int) ∧ i2 < 16) (e5 : u2 = (j2 : Int) ∧ j2 < 6)
    (c0 : ∀ w, C w → w.cell? ⟨bm, 0 + i0, none⟩ = some (.float .f64 x0)) (c1 : ∀ w, C w → w.cell? ⟨bq, 0 + j0, none⟩ = some (.float .f64 y0))
    (c2 : ∀ w, C w → w.cell? ⟨bm, 0 + i1, none⟩ = some (.float .f64 x1)) (c3 : ∀ w, C w → w.cell? ⟨bq, 0 + j1, none⟩ = some (.float .f64 y1))
    (c4 : ∀ w, C w → w.cell? ⟨bm, 0 + i2, none⟩ = some (.float .f64 x2)) (c5 : ∀ w, C w → w.cell? ⟨bq, 0 + j2, none⟩ = some (.float .f64 y2))
    (r0 : RV x0 X0) (r1 : RV y0 Y0) (r2 : RV x1 X1) (r3 : RV y1 Y1) (r4 : RV x2 X2) (r5 : RV y2 Y2)
    (k : ∀ r a', Ext a a' s → a'.tmps.getD (s + 12) undef = .float .f64 r → RV r (upP X0 Y0 X1 Y1 X2 Y2) → RB.wpRel Try.prog ops C GInv (RB.SA D) Q rest a') :
    RB.wpRel Try.prog ops C GInv (RB.SA D) Q (⟨some s, .indexAddr 80 (.tmp 1) (.const (.int .i64 z0)), T0, p0, f0, none⟩ :: ⟨some (s + 1), .load 24 (.tmp s), T1, p1, f1, none⟩ ::
      ⟨some (s + 2), .indexAddr 152 (.tmp bb) (.const (.int .i64 u0)), T2, p2, f2, none⟩ :: ⟨some (s + 3), .load 24 (.tmp (s + 2)), T3, p3, f3, none⟩ ::
      ⟨some (s + 4), .indexAddr 80 (.tmp 1) (.const (.int .i64 z1)), T4, p4, f4, none⟩ :: ⟨some (s + 5), .load 24 (.tmp (s + 4)), T5, p5, f5, none⟩ ::
      ⟨some (s + 6), .indexAddr 152 (.tmp bb) (.const (.int .i64 u1)), T6, p6, f6, none⟩ :: ⟨some (s + 7), .load 24 (.tmp (s + 6)), T7, p7, f7, none⟩ ::
      ⟨some (s + 8), .indexAddr 80 (.tmp 1) (.const (.int .i64 z2)), T8, p8, f8, none⟩ :: ⟨some (s + 9), .load 24 (.tmp (s + 8)), T9, p9, f9, none⟩ ::
      ⟨some (s + 10), .indexAddr 152 (.tmp bb) (.const (.int .i64 u2)), T10, p10, f10, none⟩ :: ⟨some (s + 11), .load 24 (.tmp (s + 10)), T11, p11, f11, none⟩ ::
      ⟨some (s + 12), .call { callee := .value (.tmp m), args := #[.tmp (s + 1), .tmp (s + 3), .tmp (s + 5), .tmp (s + 7), .tmp (s + 9), .tmp (s + 11)], argTypes := tys }, T12, p12, f12, none⟩ :: rest) a := by
  refine pairs6 hm hq h1 hbb (by omega) (fun t h h' => hD t h (by omega)) e0 e1 e2 e3 e4 e5 c0 c1 c2 c3 c4 c5 (fun a' E v0 v1 v2 v3 v4 v5 => ?_)
  have hz := E.size
  have hf' : a'.tmps.getD m undef = .func (.func 157) #[] #[] := (E.low m hms).trans hf
  refine RB.rel_call (f := 157) (args := #[.float .f64 x0, .float .f64 y0, .float .f64 x1, .float .f64 y1, .float .f64 x2, .float .f64 y2]) rfl (hD (s + 12) (by omega) (by omega)) (fun w' hw => ?_) (fun w' hw => gi157 r0 r1 r2 r3 r4 r5 w') (fun v hv => ?_)
  · unfold execOp
    simp only [Act.eval, List.map_toArray, List.map_cons, List.map_nil, v0, v1, v2, v3, v4, v5, hf']
    go_simp
  obtain ⟨r, rfl, hr⟩ := Gi157 hv r0 r1 r2 r3 r4 r5
  exact k r _ (E.trans (Ext.put (Nat.le_refl _) _) (by omega)) (at_put (by omega) _) hr
theorem ch159 {s m bb bm bq i0 j0 i1 j1 i2 j2 x0 y0 x1 y1 x2 y2 : Nat} {X0 Y0 X1 Y1 X2 Y2 : Int} {z0 u0 z1 u1 z2 u2 : Int} {T0 T1 T2 T3 T4 T5 T6 T7 T8 T9 T10 T11 T12 : TypeId} {p0 p1 p2 p3 p4 p5 p6 p7 p8 p9 p10 p11 p12 : String} {f0 f1 f2 f3 f4 f5 f6 f7 f8 f9 f10 f11 f12 : Array Edge} {tys : Array TypeId}
    (hm : a.tmps.getD 1 undef = .pointer (some ⟨bm, 0, none⟩)) (hq : a.tmps.getD bb undef = .pointer (some ⟨bq, 0, none⟩)) (hf : a.tmps.getD m undef = .func (.func 159) #[] #[]) (hms : m < s) (h1 : 1 < s) (hbb : bb < s) (hs : s + 12 < a.tmps.size) (hD : ∀ t, s ≤ t → t < s + 13 → D t = none)
    (e0 : z0 = (i0 : Int) ∧ i0 < 16) (e1 : u0 = (j0 : Int) ∧ j0 < 6) (e2 : z1 = (i1 : Int) ∧ i1 < 16) (e3 : u1 = (j1 : Int) ∧ j1 < 6) (e4 : z2 = (i2 : Int) ∧ i2 < 16) (e5 : u2 = (j2 : Int) ∧ j2 < 6)
    (c0 : ∀ w, C w → w.cell? ⟨bm, 0 + i0, none⟩ = some (.float .f64 x0)) (c1 : ∀ w, C w → w.cell? ⟨bq, 0 + j0, none⟩ = some (.float .f64 y0))
    (c2 : ∀ w, C w → w.cell? ⟨bm, 0 + i1, none⟩ = some (.float .f64 x1)) (c3 : ∀ w, C w → w.cell? ⟨bq, 0 + j1, none⟩ = some (.float .f64 y1))
    (c4 : ∀ w, C w → w.cell? ⟨bm, 0 + i2, none⟩ = some (.float .f64 x2)) (c5 : ∀ w, C w → w.cell? ⟨bq, 0 + j2, none⟩ = some (.float .f64 y2))
    (r0 : RV x0 X0) (r1 : RV y0 Y0) (r2 : RV x1 X1) (r3 : RV y1 Y1) (r4 : RV x2 X2) (r5 : RV y2 Y2)
    (k : ∀ r a', Ext a a' s → a'.tmps.getD (s + 12) undef = .float .f64 r → RV r (downP X0 Y0 X1 Y1 X2 Y2) → RB.wpRel Try.prog ops C GInv (RB.SA D) Q rest a') :
    RB.wpRel Try.prog ops C GInv (RB.SA D) Q (⟨some s, .indexAddr 80 (.tmp 1) (.const (.int .i64 z0)), T0, p0, f0, none⟩ :: ⟨some (s + 1), .load 24 (.tmp s), T1, p1, f1, none⟩ ::
      ⟨some (s + 2), .indexAddr 152 (.tmp bb) (.const (.int .i64 u0)), T2, p2, f2, none⟩ :: ⟨some (s + 3), .load 24 (.tmp (s + 2)), T3, p3, f3, none⟩ ::
      ⟨some (s + 4), .indexAddr 80 (.tmp 1) (.const (.int .i64 z1)), T4, p4, f4, none⟩ :: ⟨some (s + 5), .load 24 (.tmp (s + 4)), T5, p5, f5, none⟩ ::
      ⟨some (s + 6), .indexAddr 152 (.tmp bb) (.const (.int .i64 u1)), T6, p6, f6, none⟩ :: ⟨some (s + 7), .load 24 (.tmp (s + 6)), T7, p7, f7, none⟩ ::
      ⟨some (s + 8), .indexAddr 80 (.tmp 1) (.const (.int .i64 z2)), T8, p8, f8, none⟩ :: ⟨some (s + 9), .load 24 (.tmp (s + 8)), T9, p9, f9, none⟩ ::
      ⟨some (s + 10), .indexAddr 152 (.tmp bb) (.const (.int .i64 u2)), T10, p10, f10, none⟩ :: ⟨some (s + 11), .load 24 (.tmp (s + 10)), T11, p11, f11, none⟩ ::
      ⟨some (s + 12), .call { callee := .value (.tmp m), args := #[.tmp (s + 1), .tmp (s + 3), .tmp (s + 5), .tmp (s + 7), .tmp (s + 9), .tmp (s + 11)], argTypes := tys }, T12, p12, f12, none⟩ :: rest) a := by
  refine pairs6 hm hq h1 hbb (by omega) (fun t h h' => hD t h (by omega)) e0 e1 e2 e3 e4 e5 c0 c1 c2 c3 c4 c5 (fun a' E v0 v1 v2 v3 v4 v5 => ?_)
  have hz := E.size
  have hf' : a'.tmps.getD m undef = .func (.func 159) #[] #[] := (E.low m hms).trans hf
  refine RB.rel_call (f := 159) (args := #[.float .f64 x0, .float .f64 y0, .float .f64 x1, .float .f64 y1, .float .f64 x2, .float .f64 y2]) rfl (hD (s + 12) (by omega) (by omega)) (fun w' hw => ?_) (fun w' hw => gi159 r0 r1 r2 r3 r4 r5 w') (fun v hv => ?_)
  · unfold execOp
    simp only [Act.eval, List.map_toArray, List.map_cons, List.map_nil, v0, v1, v2, v3, v4, v5, hf']
    go_simp
  obtain ⟨r, rfl, hr⟩ := Gi159 hv r0 r1 r2 r3 r4 r5
  exact k r _ (E.trans (Ext.put (Nat.le_refl _) _) (by omega)) (at_put (by omega) _) hr
theorem rb_gen (R : Act → Prop) (h : R a) (k : ∀ a, R a → RB.wpRel Try.prog ops C GInv (RB.SA D) Q rest a) : RB.wpRel Try.prog ops C GInv (RB.SA D) Q rest a := k a h
end
theorem range_list (us : Array Value) (n : Nat) (h : us.size = n) : us = ((List.range n).map (fun t => us.getD t undef)).toArray := by
  subst h
  apply Array.ext
  · simp
  · intro i h1 h2
    simp [h1]
set_option maxRecDepth 100000 in
theorem frame255 (a : Act) (h : a.tmps.size = 255) (hd : a.defers = []) (f : Nat → Value) (hf : ∀ t, a.tmps.getD t undef = f t) : a = ⟨#[f 0, f 1, f 2, f 3, f 4, f 5, f 6, f 7, f 8, f 9, f 10, f 11, f 12, f 13, f 14, f 15, f 16, f 17, f 18, f 19, f 20, f 21, f 22, f 23, f 24, f 25, f 26, f 27, f 28, f 29, f 30, f 31, f 32, f 33, f 34, f 35, f 36, f 37, f 38, f 39, f 40, f 41, f 42, f 43, f 44, f 45, f 46, f 47, f 48, f 49, f 50, f 51, f 52, f 53, f 54, f 55, f 56, f 57, f 58, f 59, f 60, f 61, f 62, f 63, f 64, f 65, f 66, f 67, f 68, f 69, f 70, f 71, f 72, f 73, f 74, f 75, f 76, f 77, f 78, f 79, f 80, f 81, f 82, f 83, f 84, f 85, f 86, f 87, f 88, f 89, f 90, f 91, f 92, f 93, f 94, f 95, f 96, f 97, f 98, f 99, f 100, f 101, f 102, f 103, f 104, f 105, f 106, f 107, f 108, f 109, f 110, f 111, f 112, f 113, f 114, f 115, f 116, f 117, f 118, f 119, f 120, f 121, f 122, f 123, f 124, f 125, f 126, f 127, f 128, f 129, f 130, f 131, f 132, f 133, f 134, f 135, f 136, f 137, f 138, f 139, f 140, f 141, f 142, f 143, f 144, f 145, f 146, f 147, f 148, f 149, f 150, f 151, f 152, f 153, f 154, f 155, f 156, f 157, f 158, f 159, f 160, f 161, f 162, f 163, f 164, f 165, f 166, f 167, f 168, f 169, f 170, f 171, f 172, f 173, f 174, f 175, f 176, f 177, f 178, f 179, f 180, f 181, f 182, f 183, f 184, f 185, f 186, f 187, f 188, f 189, f 190, f 191, f 192, f 193, f 194, f 195, f 196, f 197, f 198, f 199, f 200, f 201, f 202, f 203, f 204, f 205, f 206, f 207, f 208, f 209, f 210, f 211, f 212, f 213, f 214, f 215, f 216, f 217, f 218, f 219, f 220, f 221, f 222, f 223, f 224, f 225, f 226, f 227, f 228, f 229, f 230, f 231, f 232, f 233, f 234, f 235, f 236, f 237, f 238, f 239, f 240, f 241, f 242, f 243, f 244, f 245, f 246, f 247, f 248, f 249, f 250, f 251, f 252, f 253, f 254], []⟩ := by
  obtain ⟨tm, df⟩ := a
  subst hd
  have e := range_list tm 255 h
  rw [show (fun t => tm.getD t undef) = f from funext hf] at e
  exact congrArg (fun t => Act.mk t []) e
set_option maxRecDepth 100000 in
theorem frame277 (a : Act) (h : a.tmps.size = 277) (hd : a.defers = []) (f : Nat → Value) (hf : ∀ t, a.tmps.getD t undef = f t) : a = ⟨#[f 0, f 1, f 2, f 3, f 4, f 5, f 6, f 7, f 8, f 9, f 10, f 11, f 12, f 13, f 14, f 15, f 16, f 17, f 18, f 19, f 20, f 21, f 22, f 23, f 24, f 25, f 26, f 27, f 28, f 29, f 30, f 31, f 32, f 33, f 34, f 35, f 36, f 37, f 38, f 39, f 40, f 41, f 42, f 43, f 44, f 45, f 46, f 47, f 48, f 49, f 50, f 51, f 52, f 53, f 54, f 55, f 56, f 57, f 58, f 59, f 60, f 61, f 62, f 63, f 64, f 65, f 66, f 67, f 68, f 69, f 70, f 71, f 72, f 73, f 74, f 75, f 76, f 77, f 78, f 79, f 80, f 81, f 82, f 83, f 84, f 85, f 86, f 87, f 88, f 89, f 90, f 91, f 92, f 93, f 94, f 95, f 96, f 97, f 98, f 99, f 100, f 101, f 102, f 103, f 104, f 105, f 106, f 107, f 108, f 109, f 110, f 111, f 112, f 113, f 114, f 115, f 116, f 117, f 118, f 119, f 120, f 121, f 122, f 123, f 124, f 125, f 126, f 127, f 128, f 129, f 130, f 131, f 132, f 133, f 134, f 135, f 136, f 137, f 138, f 139, f 140, f 141, f 142, f 143, f 144, f 145, f 146, f 147, f 148, f 149, f 150, f 151, f 152, f 153, f 154, f 155, f 156, f 157, f 158, f 159, f 160, f 161, f 162, f 163, f 164, f 165, f 166, f 167, f 168, f 169, f 170, f 171, f 172, f 173, f 174, f 175, f 176, f 177, f 178, f 179, f 180, f 181, f 182, f 183, f 184, f 185, f 186, f 187, f 188, f 189, f 190, f 191, f 192, f 193, f 194, f 195, f 196, f 197, f 198, f 199, f 200, f 201, f 202, f 203, f 204, f 205, f 206, f 207, f 208, f 209, f 210, f 211, f 212, f 213, f 214, f 215, f 216, f 217, f 218, f 219, f 220, f 221, f 222, f 223, f 224, f 225, f 226, f 227, f 228, f 229, f 230, f 231, f 232, f 233, f 234, f 235, f 236, f 237, f 238, f 239, f 240, f 241, f 242, f 243, f 244, f 245, f 246, f 247, f 248, f 249, f 250, f 251, f 252, f 253, f 254, f 255, f 256, f 257, f 258, f 259, f 260, f 261, f 262, f 263, f 264, f 265, f 266, f 267, f 268, f 269, f 270, f 271, f 272, f 273, f 274, f 275, f 276], []⟩ := by
  obtain ⟨tm, df⟩ := a
  subst hd
  have e := range_list tm 277 h
  rw [show (fun t => tm.getD t undef) = f from funext hf] at e
  exact congrArg (fun t => Act.mk t []) e
end Go.Proofs.Ytelalledjbeenaa
