/- galleyref15's pieces and Det: printed by geo20.py. Invert's closures, three; which matrices can be undone: printed by geo21.py. galleyref15's Apply, SamePoint, Flat: printed by geo19.py. A region of many loads and calls, walked with its frame unsaid: what each step leaves, slot by slot. A quick check that a region's operations may be walked in the text's order: for regions of hundreds of operations. Invert's calls, six loads and a call at once: printed by geo23.py. Invert of galleyref15, where a matrix can be undone: printed by geo23.py. -/
import Derived.Test.YtedkbjimofiphaaGeoX
import Derived.Test.YtedkbjimofiphaaMgRelS
namespace Go.Proofs.Ytedkbjimofiphaa
open Go.RowKit Fl
def RB.D1 (s n : Nat) : Nat → Option Nat := fun u => if u = s then some n else none
theorem RB.D1_or {s n u m : Nat} (h : RB.D1 s n u = some m) : u = s := by
  unfold RB.D1 at h
  by_cases h1 : u = s
  · exact h1
  · rw [if_neg h1] at h; cases h
section
variable {P : Program} {ops : Array Oper} {G : FuncId → Array Value → Value → Prop} {D : Nat → Option Nat} {Q : Act → Prop} {rest : List Oper} {a : Act}
variable {dst : Option Tmp} {T : TypeId} {pos : String} {af : Array Edge} {gd : Option (Nat × Bool)}
theorem RB.rel_loadF {C : World → Prop} {x : Operand} (b o r : Nat) (hx : a.eval x = .pointer (some ⟨b, o, none⟩)) (hw : Region.wanted ⟨dst, .load 31 x, T, pos, af, gd⟩ (yielded ops a.tmps) = true) (hd : dst.bind D = none)
    (hS : ∀ w, C w → w.cell? ⟨b, 0 + o, none⟩ = some (.float .f64 r)) (k : RB.wpRel Try.prog ops C G (RB.SA D) Q rest (a.put dst (.float .f64 r))) : RB.wpRel Try.prog ops C G (RB.SA D) Q (⟨dst, .load 31 x, T, pos, af, gd⟩ :: rest) a :=
  RB.rel_val hw hd (fun w hc => by
    have h := hS w hc
    rw [Nat.zero_add] at h
    unfold execOp
    simp only [hx]
    go_simp) k
end
structure PW (wx w : World) (A : List Value) : Prop where
  r : wx.rangeAt w.heap.size 0 A
  t1 : wx.there (w.heap.size + 1) 0 6
  t2 : wx.there (w.heap.size + 1 + 1) 0 6
  b : Below w.heap.size w wx
  l : w.heap.size + 1 + 1 < wx.heap.size
theorem PW.below {wx wy w : World} {A : List Value} (h : PW wx w A) (hb : Below wx.heap.size wx wy) : PW wy w A :=
  have hl := h.l
  have hs := hb.size
  ⟨range_below h.r hb (by omega), there_below h.t1 hb (by omega), there_below h.t2 hb (by omega), below_trans h.b hb, by omega⟩
theorem PW.setRow {wx w : World} {A : List Value} (h : PW wx w A) {g : Nat} (hg : w.heap.size + 1 + 1 < g) (vs : List Value) : PW (wx.setCells g 0 vs) w A :=
  have hb := below_setCells (Below.refl g wx) (Nat.le_refl _) 0 vs
  have hl := h.l
  ⟨range_below h.r hb (by omega), there_below h.t1 hb (by omega), there_below h.t2 hb (by omega), below_setCells h.b (by omega) 0 vs, by rw [size_setCells]; exact h.l⟩
end Go.Proofs.Ytedkbjimofiphaa

namespace Go.Proofs.Ytedkbjimofiphaa
open Go.RowKit Fl
def upP (a b c x y z : Int) : Int := opP .add (lessP a b c x) (opP .mul y z)
def downP (a b c x y z : Int) : Int := opP .sub (lessP a b c x) (opP .mul y z)
set_option maxRecDepth 100000 in
set_option maxHeartbeats 2000000 in
theorem k158n {a b c d : Nat} {A B C D : Int} (ha : RV a A) (hb : RV b B) (hc : RV c C) (hd : RV d D) (w : World) :
    Calls Try.prog 80 #[.float .f64 a, .float .f64 b, .float .f64 c, .float .f64 d] w fun e w' => RetR (lessP A B C D) e ∧ ∃ n, w' = w.drewN n := by
  have H := Lib.hid (And.intro ha (And.intro hb (And.intro hc hd)))
  have hA := fun x y w => run_fop (P := Try.prog) .sub rfl 31 x y w
  have hM := fun x y w => run_fop (P := Try.prog) .mul rfl 31 x y w
  clear ha hb hc hd
  go_enter Try.func80, Try.ntmps80
  go_wp2
  go_ret
  exact ⟨⟨_, rfl, RV.fop .sub (RV.fop .mul H.out.1 H.out.2.1 _) (RV.fop .mul H.out.2.2.1 H.out.2.2.2 _) _⟩, _, rfl⟩
set_option maxRecDepth 100000 in
set_option maxHeartbeats 2000000 in
theorem k157 {a b c x y z : Nat} {A B C X Y Z : Int} (ha : RV a A) (hb : RV b B) (hc : RV c C) (hx : RV x X) (hy : RV y Y) (hz : RV z Z) (w : World) :
    Calls Try.prog 79 #[.float .f64 a, .float .f64 b, .float .f64 c, .float .f64 x, .float .f64 y, .float .f64 z] w fun e w' => RetR (upP A B C X Y Z) e ∧ ∃ n, w' = w.drewN n := by
  have H := Lib.hid (And.intro ha (And.intro hb (And.intro hc (And.intro hx (And.intro hy hz)))))
  have hA := fun x y w => run_fop (P := Try.prog) .add rfl 31 x y w
  have hM := fun x y w => run_fop (P := Try.prog) .mul rfl 31 x y w
  clear ha hb hc hx hy hz
  go_enter Try.func79, Try.ntmps79
  go_wp2_with fail
  refine (k158n H.out.1 H.out.2.1 H.out.2.2.1 H.out.2.2.2.1 _).mono ?_
  rintro e w1 ⟨⟨r, rfl, hr⟩, n, rfl⟩
  have HR := Lib.hid hr
  clear hr
  go_wp2
  go_ret
  exact ⟨⟨_, rfl, RV.fop .add HR.out (RV.fop .mul H.out.2.2.2.2.1 H.out.2.2.2.2.2 _) _⟩, _, rfl⟩
set_option maxRecDepth 100000 in
set_option maxHeartbeats 2000000 in
theorem k159 {a b c x y z : Nat} {A B C X Y Z : Int} (ha : RV a A) (hb : RV b B) (hc : RV c C) (hx : RV x X) (hy : RV y Y) (hz : RV z Z) (w : World) :
    Calls Try.prog 81 #[.float .f64 a, .float .f64 b, .float .f64 c, .float .f64 x, .float .f64 y, .float .f64 z] w fun e w' => RetR (downP A B C X Y Z) e ∧ ∃ n, w' = w.drewN n := by
  have H := Lib.hid (And.intro ha (And.intro hb (And.intro hc (And.intro hx (And.intro hy hz)))))
  have hA := fun x y w => run_fop (P := Try.prog) .sub rfl 31 x y w
  have hM := fun x y w => run_fop (P := Try.prog) .mul rfl 31 x y w
  clear ha hb hc hx hy hz
  go_enter Try.func81, Try.ntmps81
  go_wp2_with fail
  refine (k158n H.out.1 H.out.2.1 H.out.2.2.1 H.out.2.2.2.1 _).mono ?_
  rintro e w1 ⟨⟨r, rfl, hr⟩, n, rfl⟩
  have HR := Lib.hid hr
  clear hr
  go_wp2
  go_ret
  exact ⟨⟨_, rfl, RV.fop .sub HR.out (RV.fop .mul H.out.2.2.2.2.1 H.out.2.2.2.2.2 _) _⟩, _, rfl⟩
/-- what an inverse has, times the determinant -/
def adjP (m : Nat → Int) : Nat → Int
  | 0 => upP (m 5) (minors8 m 5) (m 6) (minors8 m 4) (m 7) (minors8 m 3)
  | 1 => downP (m 2) (minors8 m 4) (m 1) (minors8 m 5) (m 3) (minors8 m 3)
  | 2 => upP (m 13) (minors0 m 5) (m 14) (minors0 m 4) (m 15) (minors0 m 3)
  | 3 => downP (m 10) (minors0 m 4) (m 9) (minors0 m 5) (m 11) (minors0 m 3)
  | 4 => downP (m 6) (minors8 m 2) (m 4) (minors8 m 5) (m 7) (minors8 m 1)
  | 5 => upP (m 0) (minors8 m 5) (m 2) (minors8 m 2) (m 3) (minors8 m 1)
  | 6 => downP (m 14) (minors0 m 2) (m 12) (minors0 m 5) (m 15) (minors0 m 1)
  | 7 => upP (m 8) (minors0 m 5) (m 10) (minors0 m 2) (m 11) (minors0 m 1)
  | 8 => upP (m 4) (minors8 m 4) (m 5) (minors8 m 2) (m 7) (minors8 m 0)
  | 9 => downP (m 1) (minors8 m 2) (m 0) (minors8 m 4) (m 3) (minors8 m 0)
  | 10 => upP (m 12) (minors0 m 4) (m 13) (minors0 m 2) (m 15) (minors0 m 0)
  | 11 => downP (m 9) (minors0 m 2) (m 8) (minors0 m 4) (m 11) (minors0 m 0)
  | 12 => downP (m 5) (minors8 m 1) (m 4) (minors8 m 3) (m 6) (minors8 m 0)
  | 13 => upP (m 0) (minors8 m 3) (m 1) (minors8 m 1) (m 2) (minors8 m 0)
  | 14 => downP (m 13) (minors0 m 1) (m 12) (minors0 m 3) (m 14) (minors0 m 0)
  | _ => upP (m 8) (minors0 m 3) (m 9) (minors0 m 1) (m 10) (minors0 m 0)
def invOk (D : Int) : Bool := decide (-9218868437227405313 < D ∧ D < 9218868437227405312) && !feqP D 0
def invP (m : Nat → Int) (j : Nat) : Int := opP .quo (adjP m j) (detP m)
def InvR (m : Nat → Int) (e : Ending) : Prop := ∃ os : List Nat, e = .returned (.tuple #[.agg (os.map (Value.float .f64)).toArray, .bool (invOk (detP m))]) ∧ MU os ∧ ∀ j, j < 16 → mp os j = if invOk (detP m) then invP m j else 9223372036854775807
theorem fin_place (x : Nat) : fin x = decide (-9218868437227405313 < pl x ∧ pl x < 9218868437227405312) := by
  by_cases h : fin x = true
  · rw [h]
    symm
    refine decide_eq_true ?_
    have hl := fin_true h
    have hn := fin_not_nan h
    unfold INF at hl
    cases hs : sg x
    · rw [pl_pos hn hs]; omega
    · rw [pl_neg hn hs]; omega
  · have h' : fin x = false := by simpa using h
    rw [h']
    symm
    refine decide_eq_false ?_
    have hl := fin_false h'
    unfold INF at hl
    by_cases hn : isN x = true
    · rw [pl_nan hn]; unfold NP; omega
    · have hn : isN x = false := by simpa using hn
      cases hs : sg x
      · rw [pl_pos hn hs]; omega
      · rw [pl_neg hn hs]; omega
theorem rg_parts (x : Nat) : rg x = eM x * 4503599627370496 + fM x ∧ fM x < 4503599627370496 ∧ eM x < 2048 := by unfold rg eM fM; omega
theorem cls_place (x : Nat) (hx : U x) : (invOk (pl x) = true → pCls x = 1 ∨ pCls x = 2) ∧ (invOk (pl x) = false → pCls x = 0 ∨ pCls x = 3 ∨ pCls x = 4) := by
  obtain ⟨h1, h2, h3⟩ := rg_parts x
  have hf := fin_place x
  unfold invOk pCls
  rw [← hf]
  by_cases hfx : fin x = true
  · have hl := fin_true hfx
    have hn := fin_not_nan hfx
    unfold INF at hl
    rw [hfx, Bool.true_and]
    have hz : feqP (pl x) 0 = decide (rg x = 0) := by
      unfold feqP zk
      cases hs : sg x
      · rw [pl_pos hn hs, Bool.eq_iff_iff]; simp; omega
      · rw [pl_neg hn hs, Bool.eq_iff_iff]; simp; omega
    rw [hz]
    by_cases h0 : rg x = 0
    · rw [decide_eq_true h0]
      refine ⟨fun h => by simp at h, fun _ => .inl ?_⟩
      rw [if_neg (by omega), if_pos (by omega), if_pos (by omega)]
    · rw [decide_eq_false h0]
      refine ⟨fun _ => ?_, fun h => by simp at h⟩
      rw [if_neg (by omega)]
      by_cases he : eM x = 0
      · rw [if_pos he, if_neg (by omega)]; exact .inl rfl
      · rw [if_neg he]; exact .inr rfl
  · have hfx : fin x = false := by simpa using hfx
    have hl := fin_false hfx
    unfold INF at hl
    rw [hfx, Bool.false_and]
    refine ⟨fun h => absurd h Bool.false_ne_true, fun _ => .inr ?_⟩
    rw [if_pos (by omega)]
    split
    · exact .inl rfl
    · exact .inr rfl
theorem cls_atW (x : Nat) (hx : U x) : pCls x = pCls (atW (pl x)) := by
  by_cases hn : isN x = true
  · have h1 : rg x > 9218868437227405312 := by unfold isN INF at hn; exact of_decide_eq_true hn
    obtain ⟨h2, h3, h4⟩ := rg_parts x
    rw [pl_nan hn]
    have : pCls (atW NP) = 4 := by decide
    rw [this]
    unfold pCls
    rw [if_pos (by omega), if_neg (by omega)]
  · rw [atW_pl x hx (by simpa using hn)]
theorem cls_of (D : Int) (x : Nat) (h : RV x D) : pCls x = pCls (atW D) := by rw [← h.2]; exact cls_atW x h.1
end Go.Proofs.Ytedkbjimofiphaa

namespace Go.Proofs.Ytedkbjimofiphaa
open Go.RowKit Fl
end Go.Proofs.Ytedkbjimofiphaa

namespace Go.Proofs.Ytedkbjimofiphaa
open Go.RowKit Fl
/-- a frame that is another one's but for slots from lo on -/
structure Ext (a a' : Act) (lo : Nat) : Prop where
  size : a'.tmps.size = a.tmps.size
  defers : a'.defers = a.defers
  low : ∀ t, t < lo → a'.tmps.getD t undef = a.tmps.getD t undef
theorem Ext.refl (a : Act) (lo : Nat) : Ext a a lo := ⟨rfl, rfl, fun _ _ => rfl⟩
theorem Ext.trans {a b c : Act} {l m : Nat} (h : Ext a b l) (k : Ext b c m) (hl : l ≤ m) : Ext a c l := ⟨k.size.trans h.size, k.defers.trans h.defers, fun t ht => (k.low t (by omega)).trans (h.low t ht)⟩
theorem Ext.put {a : Act} {lo d : Nat} (h : lo ≤ d) (v : Value) : Ext a (a.put (some d) v) lo :=
  ⟨by unfold Act.put; simp, rfl, fun t ht => RB.put_other a (by omega) v⟩
theorem at_put {a : Act} {d : Nat} (h : d < a.tmps.size) (v : Value) : (a.put (some d) v).tmps.getD d undef = v := by
  unfold Act.put
  simp only [Array.getD_eq_getD_getElem?, Array.getElem?_setIfInBounds]
  simp [h]
section
variable {ops : Array Oper} {C : World → Prop} {G : FuncId → Array Value → Value → Prop} {D : Nat → Option Nat} {Q : Act → Prop} {rest : List Oper} {a : Act}
theorem ix80 {d base i b : Nat} {z : Int} {T : TypeId} {pos : String} {af : Array Edge} (hb : a.tmps.getD base undef = .pointer (some ⟨b, 0, none⟩)) (hz : z = (i : Int)) (hi : i < 16) (hd : D d = none)
    (k : RB.wpRel Try.prog ops C G (RB.SA D) Q rest (a.put (some d) (.pointer (some ⟨b, i, none⟩)))) : RB.wpRel Try.prog ops C G (RB.SA D) Q (⟨some d, .indexAddr 44 (.tmp base) (.const (.int .i64 z)), T, pos, af, none⟩ :: rest) a := by
  subst hz
  have h1 : (i : Int) < 16 := by omega
  have h2 : (0 : Int) ≤ (i : Int) := by omega
  have hx : a.eval (.tmp base) = .pointer (some ⟨b, 0, none⟩) := hb
  exact RB.rel_val rfl hd (fun w hc => by
    unfold execOp
    simp only [hx, show a.eval (.const (.int .i64 (i : Int))) = .int .i64 (i : Int) from rfl]
    go_simp) k
theorem ix152 {d base i b : Nat} {z : Int} {T : TypeId} {pos : String} {af : Array Edge} (hb : a.tmps.getD base undef = .pointer (some ⟨b, 0, none⟩)) (hz : z = (i : Int)) (hi : i < 6) (hd : D d = none)
    (k : RB.wpRel Try.prog ops C G (RB.SA D) Q rest (a.put (some d) (.pointer (some ⟨b, i, none⟩)))) : RB.wpRel Try.prog ops C G (RB.SA D) Q (⟨some d, .indexAddr 143 (.tmp base) (.const (.int .i64 z)), T, pos, af, none⟩ :: rest) a := by
  subst hz
  have h1 : (i : Int) < 6 := by omega
  have h2 : (0 : Int) ≤ (i : Int) := by omega
  have hx : a.eval (.tmp base) = .pointer (some ⟨b, 0, none⟩) := hb
  exact RB.rel_val rfl hd (fun w hc => by
    unfold execOp
    simp only [hx, show a.eval (.const (.int .i64 (i : Int))) = .int .i64 (i : Int) from rfl]
    go_simp) k
theorem pair80 {d base i b r : Nat} {z : Int} {T T' : TypeId} {pos pos' : String} {af af' : Array Edge} (hb : a.tmps.getD base undef = .pointer (some ⟨b, 0, none⟩)) (hz : z = (i : Int)) (hi : i < 16) (hD : ∀ t, d ≤ t → t < d + 2 → D t = none)
    (hs : d + 1 < a.tmps.size) (hS : ∀ w, C w → w.cell? ⟨b, 0 + i, none⟩ = some (.float .f64 r))
    (k : ∀ a', Ext a a' d → a'.tmps.getD (d + 1) undef = .float .f64 r → RB.wpRel Try.prog ops C G (RB.SA D) Q rest a') :
    RB.wpRel Try.prog ops C G (RB.SA D) Q (⟨some d, .indexAddr 44 (.tmp base) (.const (.int .i64 z)), T, pos, af, none⟩ :: ⟨some (d + 1), .load 31 (.tmp d), T', pos', af', none⟩ :: rest) a := by
  refine ix80 hb hz hi (hD d (Nat.le_refl _) (by omega)) ?_
  refine RB.rel_loadF b i r (at_put (by omega) _) rfl (hD (d + 1) (by omega) (by omega)) hS ?_
  refine k _ ((Ext.put (Nat.le_refl d) _).trans (Ext.put (Nat.le_refl _) _) (by omega)) (at_put ?_ _)
  rw [(Ext.put (Nat.le_refl d) _).size]; omega
theorem pair152 {d base i b r : Nat} {z : Int} {T T' : TypeId} {pos pos' : String} {af af' : Array Edge} (hb : a.tmps.getD base undef = .pointer (some ⟨b, 0, none⟩)) (hz : z = (i : Int)) (hi : i < 6) (hD : ∀ t, d ≤ t → t < d + 2 → D t = none)
    (hs : d + 1 < a.tmps.size) (hS : ∀ w, C w → w.cell? ⟨b, 0 + i, none⟩ = some (.float .f64 r))
    (k : ∀ a', Ext a a' d → a'.tmps.getD (d + 1) undef = .float .f64 r → RB.wpRel Try.prog ops C G (RB.SA D) Q rest a') :
    RB.wpRel Try.prog ops C G (RB.SA D) Q (⟨some d, .indexAddr 143 (.tmp base) (.const (.int .i64 z)), T, pos, af, none⟩ :: ⟨some (d + 1), .load 31 (.tmp d), T', pos', af', none⟩ :: rest) a := by
  refine ix152 hb hz hi (hD d (Nat.le_refl _) (by omega)) ?_
  refine RB.rel_loadF b i r (at_put (by omega) _) rfl (hD (d + 1) (by omega) (by omega)) hS ?_
  refine k _ ((Ext.put (Nat.le_refl d) _).trans (Ext.put (Nat.le_refl _) _) (by omega)) (at_put ?_ _)
  rw [(Ext.put (Nat.le_refl d) _).size]; omega
/-- six loads, in turn out of the matrix and out of minors -/
theorem pairs6 {s bb bm bq i0 j0 i1 j1 i2 j2 x0 y0 x1 y1 x2 y2 : Nat} {z0 u0 z1 u1 z2 u2 : Int} {T0 T1 T2 T3 T4 T5 T6 T7 T8 T9 T10 T11 : TypeId} {p0 p1 p2 p3 p4 p5 p6 p7 p8 p9 p10 p11 : String} {f0 f1 f2 f3 f4 f5 f6 f7 f8 f9 f10 f11 : Array Edge}
    (hm : a.tmps.getD 1 undef = .pointer (some ⟨bm, 0, none⟩)) (hq : a.tmps.getD bb undef = .pointer (some ⟨bq, 0, none⟩)) (h1 : 1 < s) (hbb : bb < s) (hs : s + 11 < a.tmps.size) (hD : ∀ t, s ≤ t → t < s + 12 → D t = none)
    (e0 : z0 = (i0 : Int) ∧ i0 < 16) (e1 : u0 = (j0 : Int) ∧ j0 < 6) (e2 : z1 = (i1 : Int) ∧ i1 < 16) (e3 : u1 = (j1 : Int) ∧ j1 < 6) (e4 : z2 = (i2 : Int) ∧ i2 < 16) (e5 : u2 = (j2 : Int) ∧ j2 < 6)
    (c0 : ∀ w, C w → w.cell? ⟨bm, 0 + i0, none⟩ = some (.float .f64 x0)) (c1 : ∀ w, C w → w.cell? ⟨bq, 0 + j0, none⟩ = some (.float .f64 y0))
    (c2 : ∀ w, C w → w.cell? ⟨bm, 0 + i1, none⟩ = some (.float .f64 x1)) (c3 : ∀ w, C w → w.cell? ⟨bq, 0 + j1, none⟩ = some (.float .f64 y1))
    (c4 : ∀ w, C w → w.cell? ⟨bm, 0 + i2, none⟩ = some (.float .f64 x2)) (c5 : ∀ w, C w → w.cell? ⟨bq, 0 + j2, none⟩ = some (.float .f64 y2))
    (k : ∀ a', Ext a a' s → a'.tmps.getD (s + 1) undef = .float .f64 x0 → a'.tmps.getD (s + 3) undef = .float .f64 y0 → a'.tmps.getD (s + 5) undef = .float .f64 x1 → a'.tmps.getD (s + 7) undef = .float .f64 y1 → a'.tmps.getD (s + 9) undef = .float .f64 x2 → a'.tmps.getD (s + 11) undef = .float .f64 y2 →
      RB.wpRel Try.prog ops C G (RB.SA D) Q rest a') :
    RB.wpRel Try.prog ops C G (RB.SA D) Q (⟨some s, .indexAddr 44 (.tmp 1) (.const (.int .i64 z0)), T0, p0, f0, none⟩ :: ⟨some (s + 1), .load 31 (.tmp s), T1, p1, f1, none⟩ ::
      ⟨some (s + 2), .indexAddr 143 (.tmp bb) (.const (.int .i64 u0)), T2, p2, f2, none⟩ :: ⟨some (s + 3), .load 31 (.tmp (s + 2)), T3, p3, f3, none⟩ ::
      ⟨some (s + 4), .indexAddr 44 (.tmp 1) (.const (.int .i64 z1)), T4, p4, f4, none⟩ :: ⟨some (s + 5), .load 31 (.tmp (s + 4)), T5, p5, f5, none⟩ ::
      ⟨some (s + 6), .indexAddr 143 (.tmp bb) (.const (.int .i64 u1)), T6, p6, f6, none⟩ :: ⟨some (s + 7), .load 31 (.tmp (s + 6)), T7, p7, f7, none⟩ ::
      ⟨some (s + 8), .indexAddr 44 (.tmp 1) (.const (.int .i64 z2)), T8, p8, f8, none⟩ :: ⟨some (s + 9), .load 31 (.tmp (s + 8)), T9, p9, f9, none⟩ ::
      ⟨some (s + 10), .indexAddr 143 (.tmp bb) (.const (.int .i64 u2)), T10, p10, f10, none⟩ :: ⟨some (s + 11), .load 31 (.tmp (s + 10)), T11, p11, f11, none⟩ :: rest) a := by
  refine pair80 hm e0.1 e0.2 (fun t h h' => hD t (by omega) (by omega)) (by omega) c0 (fun a1 E1 v1 => ?_)
  have z1' := E1.size
  refine pair152 (d := s + 2) ((E1.low bb hbb).trans hq) e1.1 e1.2 (fun t h h' => hD t (by omega) (by omega)) (by omega) c1 (fun a2 E2 v2 => ?_)
  have z2' := E2.size
  have F2 := E1.trans E2 (by omega)
  refine pair80 (d := s + 4) ((F2.low 1 h1).trans hm) e2.1 e2.2 (fun t h h' => hD t (by omega) (by omega)) (by omega) c2 (fun a3 E3 v3 => ?_)
  have z3' := E3.size
  have F3 := F2.trans E3 (by omega)
  refine pair152 (d := s + 6) ((F3.low bb hbb).trans hq) e3.1 e3.2 (fun t h h' => hD t (by omega) (by omega)) (by omega) c3 (fun a4 E4 v4 => ?_)
  have z4' := E4.size
  have F4 := F3.trans E4 (by omega)
  refine pair80 (d := s + 8) ((F4.low 1 h1).trans hm) e4.1 e4.2 (fun t h h' => hD t (by omega) (by omega)) (by omega) c4 (fun a5 E5 v5 => ?_)
  have z5' := E5.size
  have F5 := F4.trans E5 (by omega)
  refine pair152 (d := s + 10) ((F5.low bb hbb).trans hq) e5.1 e5.2 (fun t h h' => hD t (by omega) (by omega)) (by omega) c5 (fun a6 E6 v6 => ?_)
  refine k a6 (F5.trans E6 (by omega)) ?_ ?_ ?_ ?_ ?_ v6
  · exact (E6.low _ (by omega)).trans ((E5.low _ (by omega)).trans ((E4.low _ (by omega)).trans ((E3.low _ (by omega)).trans ((E2.low _ (by omega)).trans v1))))
  · exact (E6.low _ (by omega)).trans ((E5.low _ (by omega)).trans ((E4.low _ (by omega)).trans ((E3.low _ (by omega)).trans v2)))
  · exact (E6.low _ (by omega)).trans ((E5.low _ (by omega)).trans ((E4.low _ (by omega)).trans v3))
  · exact (E6.low _ (by omega)).trans ((E5.low _ (by omega)).trans v4)
  · exact (E6.low _ (by omega)).trans v5
end
end Go.Proofs.Ytedkbjimofiphaa

namespace Go.Proofs.Ytedkbjimofiphaa
open Go
def waitsOf (o : Oper) : List Nat := o.after.toList.filterMap fun e => if Region.binds .any e then some e.on else none
def looksOf (o : Oper) : List Nat := o.op.operands.toList.filterMap fun | .tmp t => some t | _ => none
def noSel (o : Oper) : Bool := match o.op with | .select .. => false | _ => true
def pairOK (k : Nat) (o p : Oper) : Bool :=
  (waitsOf p).contains k || ((match o.dst with | some d => !(looksOf p).contains d && p.dst != some d | none => true) && (match p.dst with | some d => !(looksOf o).contains d | none => true))
def goL (n : Nat) : List Oper → Nat → Bool
  | [], _ => true
  | o :: rest, k => o.guard.isNone && noSel o && (waitsOf o).all (fun x => decide (x < k)) && (!decide (k < n) || (rest.all (pairOK k o) && rest.any (fun p => (waitsOf p).contains k))) && goL n rest (k + 1)
structure GL (l : List Oper) (n k i : Nat) (o : Oper) : Prop where
  g : o.guard = none
  s : noSel o = true
  w : ∀ x ∈ waitsOf o, x < k + i
  p : k + i < n → ∀ j p, i < j → l[j]? = some p → pairOK (k + i) o p = true
  a : k + i < n → ∃ j p, i < j ∧ l[j]? = some p ∧ k + i ∈ waitsOf p
theorem goL_spec {n : Nat} : ∀ (l : List Oper) (k : Nat), goL n l k = true → ∀ i o, l[i]? = some o → GL l n k i o
  | [], _, _, i, o, h => by simp at h
  | x :: rest, k, hg, i, o, h => by
    simp only [goL, Bool.and_eq_true, Bool.or_eq_true, Bool.not_eq_true', decide_eq_false_iff_not, Option.isNone_iff_eq_none, List.all_eq_true, List.any_eq_true, decide_eq_true_eq, List.contains_iff_mem] at hg
    obtain ⟨⟨⟨⟨h1, h2⟩, h3⟩, h4⟩, h5⟩ := hg
    cases i with
    | zero =>
      simp only [List.getElem?_cons_zero, Option.some.injEq] at h
      subst h
      refine ⟨h1, h2, fun y hy => by have := h3 y hy; omega, fun hk j p hj hp => ?_, fun hk => ?_⟩
      · rcases h4 with h4 | ⟨h4, _⟩
        · omega
        · obtain ⟨j, rfl⟩ : ∃ m, j = m + 1 := ⟨j - 1, by omega⟩
          rw [List.getElem?_cons_succ] at hp
          exact h4 p (List.mem_of_getElem? hp)
      · rcases h4 with h4 | ⟨_, p, hp, hw⟩
        · omega
        · obtain ⟨j, hj, e⟩ := List.mem_iff_getElem.1 hp
          exact ⟨j + 1, p, by omega, by rw [List.getElem?_cons_succ, List.getElem?_eq_getElem hj, e], hw⟩
    | succ i =>
      rw [List.getElem?_cons_succ] at h
      have G := goL_spec rest (k + 1) h5 i o h
      have e : k + 1 + i = k + (i + 1) := by omega
      refine ⟨G.g, G.s, fun y hy => by have := G.w y hy; omega, fun hk j p hj hp => ?_, fun hk => ?_⟩
      · obtain ⟨j, rfl⟩ : ∃ m, j = m + 1 := ⟨j - 1, by omega⟩
        rw [List.getElem?_cons_succ] at hp
        have := G.p (by omega) j p (by omega) hp
        rwa [e] at this
      · obtain ⟨j, p, hj, hp, hw⟩ := G.a (by omega)
        exact ⟨j + 1, p, by omega, by rw [List.getElem?_cons_succ]; exact hp, by rwa [e] at hw⟩
theorem mem_waits {o : Oper} {i : Nat} : i ∈ waitsOf o ↔ ∃ e ∈ o.after, Region.binds .any e = true ∧ e.on = i := by
  unfold waitsOf
  rw [List.mem_filterMap]
  constructor
  · rintro ⟨e, he, h⟩
    by_cases hb : Region.binds .any e = true
    · rw [if_pos hb] at h
      injection h with h
      exact ⟨e, by simpa using he, hb, h⟩
    · rw [if_neg hb] at h; cases h
  · rintro ⟨e, he, hb, h⟩
    exact ⟨e, by simpa using he, by rw [if_pos hb, h]⟩
/-- the first k are listed -/
def LI (N k : Nat) (listed : Array Bool) : Prop := listed.size = N ∧ ∀ j, j < N → listed[j]? = some (decide (j < k))
theorem LI.getD {N k : Nat} {listed : Array Bool} (h : LI N k listed) (j : Nat) (b : Bool) (hj : j < N) : listed.getD j b = decide (j < k) := by
  rw [Array.getD_eq_getD_getElem?, h.2 j hj]; rfl
theorem LI.set {N k : Nat} {listed : Array Bool} (h : LI N k listed) : LI N (k + 1) (listed.setIfInBounds k true) := by
  refine ⟨by simp [h.1], fun j hj => ?_⟩
  rw [Array.getElem?_setIfInBounds]
  by_cases e : k = j
  · subst e
    rw [if_pos rfl, if_pos (by rw [h.1]; exact hj)]
    simp
  · rw [if_neg e, h.2 j hj]
    congr 1
    rw [decide_eq_decide]; omega
section
variable {l : List Oper} {n : Nat}
theorem fast_ready (hg : goL n l 0 = true) {k : Nat} {listed : Array Bool} (hk : k < l.length) (hL : LI l.length k listed) : k ∈ Region.ready .any l.toArray listed := by
  have ho : l[k]? = some l[k] := List.getElem?_eq_getElem hk
  have G := goL_spec l 0 hg k _ ho
  refine mem_ready.2 ⟨by rw [hL.getD k true hk]; simp, l[k], by simp [ho], fun e he hb => ?_⟩
  have hw := G.w e.on (mem_waits.2 ⟨e, he, hb, rfl⟩)
  rw [hL.getD e.on false (by omega)]
  exact decide_eq_true (by omega)
theorem apart_eq {ops : Array Oper} {o p : Oper} (ho : o.guard = none) (hp : p.guard = none) : o.apart ops p = ((match o.dst with | some d => !(looksOf p).contains d && p.dst != some d | none => true) && (match p.dst with | some d => !(looksOf o).contains d | none => true)) := by
  unfold Oper.apart Oper.looksAt looksOf
  rw [ho, hp]
  simp only [List.append_nil]
  cases o.dst <;> cases p.dst <;> rfl
theorem fast_free (hg : goL n l 0 = true) {k : Nat} {listed : Array Bool} (hk : k < l.length) (hn : k < n) (hL : LI l.length k listed) : Region.free .any l.toArray listed k = true := by
  have ho : l[k]? = some l[k] := List.getElem?_eq_getElem hk
  have G := goL_spec l 0 hg k _ ho
  unfold Region.free
  rw [List.getElem?_toArray, ho]
  simp only [List.all_eq_true, List.mem_range, List.size_toArray]
  intro j hj
  by_cases hjk : j ≤ k
  · by_cases e : j = k
    · simp [e]
    · rw [hL.getD j true hj]
      simp [show j < k by omega]
  · have hp : l[j]? = some l[j] := List.getElem?_eq_getElem hj
    have P := G.p (by omega) j _ (by omega) hp
    have G2 := goL_spec l 0 hg j _ hp
    rw [List.getElem?_toArray, hp]
    simp only [Bool.or_eq_true]
    right
    rw [apart_eq G.g G2.g]
    simp only [pairOK, Bool.or_eq_true, List.contains_iff_mem, Nat.zero_add] at P
    rcases P with P | P
    · left
      obtain ⟨e, he, hb, hon⟩ := mem_waits.1 P
      exact Array.any_eq_true'.2 ⟨e, he, by rw [hb, hon]; simp⟩
    · right; exact P
theorem fast_lex (hg : goL n l 0 = true) (hN : l.length = n + 1) : ∀ (f k : Nat) (listed : Array Bool), k + f = n → LI l.length k listed → Region.lexHead .any l.toArray 1 f k listed = true
  | 0, k, listed, hk, hL => by
    have hkn : k = n := by omega
    subst hkn
    unfold Region.lexHead Region.seqB Region.seqB
    have h1 : Region.ready .any l.toArray listed = [k] := by
      have hm := fast_ready hg (show k < l.length by omega) hL
      have hall : ∀ j ∈ Region.ready .any l.toArray listed, j = k := fun j hj => by
        obtain ⟨hu, o, ho, _⟩ := mem_ready.1 hj
        have hjl : j < l.length := by rw [List.getElem?_toArray] at ho; exact (List.getElem?_eq_some_iff.1 ho).1
        rw [hL.getD j true hjl] at hu
        have := of_decide_eq_false hu
        omega
      have hnd : (Region.ready .any l.toArray listed).Nodup := by unfold Region.ready; exact List.Nodup.sublist List.filter_sublist List.nodup_range
      generalize Region.ready .any l.toArray listed = r at *
      match r, hm, hall, hnd with
      | [x], _, hall, _ => rw [hall x (by simp)]
      | x :: y :: r, _, hall, hnd =>
        have e1 := hall x (by simp)
        have e2 := hall y (by simp)
        simp [e1, e2] at hnd
    have h2 : Region.ready .any l.toArray (listed.setIfInBounds k true) = [] := by
      have hL' := hL.set
      refine List.eq_nil_iff_forall_not_mem.2 fun j hj => ?_
      obtain ⟨hu, o, ho, _⟩ := mem_ready.1 hj
      have hjl : j < l.length := by rw [List.getElem?_toArray] at ho; exact (List.getElem?_eq_some_iff.1 ho).1
      rw [hL'.getD j true hjl] at hu
      have := of_decide_eq_false hu
      omega
    rw [h1, h2]
    simp
  | f + 1, k, listed, hk, hL => by
    unfold Region.lexHead
    rw [fast_lex hg hN f (k + 1) _ (by omega) hL.set, fast_free hg (by omega) (by omega) hL]
    simp only [Bool.and_true, List.contains_iff_mem]
    exact fast_ready hg (by omega) hL
theorem fast_relB (h : (goL n l 0 && decide (l.length = n + 1)) = true) : RB.relB l.toArray n = true := by
  simp only [Bool.and_eq_true, decide_eq_true_eq] at h
  obtain ⟨hg, hN⟩ := h
  unfold RB.relB
  simp only [Bool.and_eq_true, Bool.or_eq_true, decide_eq_true_eq, List.size_toArray]
  refine ⟨⟨?_, .inr ⟨⟨by omega, ?_⟩, ?_⟩⟩, ?_⟩
  · unfold Region.noSelect
    rw [List.all_toArray, List.all_eq_true]
    intro o ho
    obtain ⟨i, hi, rfl⟩ := List.mem_iff_getElem.1 ho
    exact (goL_spec l 0 hg i _ (List.getElem?_eq_getElem hi)).s
  · unfold Region.sinkB
    simp only [List.all_eq_true, List.mem_range, List.any_eq_true, Bool.and_eq_true, decide_eq_true_eq]
    intro i hi
    obtain ⟨j, p, hj, hp, hw⟩ := (goL_spec l 0 hg i _ (List.getElem?_eq_getElem (show i < l.length by omega))).a (by omega)
    have hjl : j < l.length := (List.getElem?_eq_some_iff.1 hp).1
    refine ⟨j, by omega, hj, ?_⟩
    unfold Region.waitsFor
    rw [List.getElem?_toArray, hp]
    rw [Nat.zero_add] at hw
    obtain ⟨e, he, hb, hon⟩ := mem_waits.1 hw
    exact Array.any_eq_true'.2 ⟨e, he, by rw [hb, hon]; simp⟩
  · unfold Region.chainB
    simp only [List.all_eq_true, List.mem_range, List.size_toArray, Bool.or_eq_true, decide_eq_true_eq]
    intro t ht
    left; omega
  · rw [hN, show n + 1 - n = 1 by omega]
    refine fast_lex hg hN n 0 _ (by omega) ⟨by simp [hN], fun j hj => ?_⟩
    rw [hN] at hj
    simp [hj]
end
end Go.Proofs.Ytedkbjimofiphaa

namespace Go.Proofs.Ytedkbjimofiphaa
open Go.RowKit Fl
def GInv (f : FuncId) (args : Array Value) (v : Value) : Prop :=
  match f with
  | 79 => ∀ a b c x y z : Nat, args = #[.float .f64 a, .float .f64 b, .float .f64 c, .float .f64 x, .float .f64 y, .float .f64 z] → ∃ r : Nat, v = .float .f64 r ∧ RV r (upP (pl a) (pl b) (pl c) (pl x) (pl y) (pl z))
  | 81 => ∀ a b c x y z : Nat, args = #[.float .f64 a, .float .f64 b, .float .f64 c, .float .f64 x, .float .f64 y, .float .f64 z] → ∃ r : Nat, v = .float .f64 r ∧ RV r (downP (pl a) (pl b) (pl c) (pl x) (pl y) (pl z))
  | _ => True
theorem gi157 {a b c x y z : Nat} {A B C X Y Z : Int} (h0 : RV a A) (h1 : RV b B) (h2 : RV c C) (h3 : RV x X) (h4 : RV y Y) (h5 : RV z Z) (w : World) :
    Calls Try.prog 79 #[.float .f64 a, .float .f64 b, .float .f64 c, .float .f64 x, .float .f64 y, .float .f64 z] w fun e w' => ∃ v, e = .returned v ∧ GInv 79 #[.float .f64 a, .float .f64 b, .float .f64 c, .float .f64 x, .float .f64 y, .float .f64 z] v ∧ Below w.heap.size w w' :=
  (k157 (RV.self h0.1) (RV.self h1.1) (RV.self h2.1) (RV.self h3.1) (RV.self h4.1) (RV.self h5.1) w).mono fun e w' ⟨⟨r, he, hr⟩, n, hb⟩ => ⟨_, he, fun a b c x y z hh => by cases hh; exact ⟨r, rfl, hr⟩, by rw [hb]; exact Bd (Below.refl _ _) n⟩
theorem Gi157 {a b c x y z : Nat} {A B C X Y Z : Int} {v : Value} (hv : GInv 79 #[.float .f64 a, .float .f64 b, .float .f64 c, .float .f64 x, .float .f64 y, .float .f64 z] v) (h0 : RV a A) (h1 : RV b B) (h2 : RV c C) (h3 : RV x X) (h4 : RV y Y) (h5 : RV z Z) : ∃ r : Nat, v = .float .f64 r ∧ RV r (upP A B C X Y Z) := by
  obtain ⟨_, rfl⟩ := h0
  obtain ⟨_, rfl⟩ := h1
  obtain ⟨_, rfl⟩ := h2
  obtain ⟨_, rfl⟩ := h3
  obtain ⟨_, rfl⟩ := h4
  obtain ⟨_, rfl⟩ := h5
  exact hv _ _ _ _ _ _ rfl
theorem gi159 {a b c x y z : Nat} {A B C X Y Z : Int} (h0 : RV a A) (h1 : RV b B) (h2 : RV c C) (h3 : RV x X) (h4 : RV y Y) (h5 : RV z Z) (w : World) :
    Calls Try.prog 81 #[.float .f64 a, .float .f64 b, .float .f64 c, .float .f64 x, .float .f64 y, .float .f64 z] w fun e w' => ∃ v, e = .returned v ∧ GInv 81 #[.float .f64 a, .float .f64 b, .float .f64 c, .float .f64 x, .float .f64 y, .float .f64 z] v ∧ Below w.heap.size w w' :=
  (k159 (RV.self h0.1) (RV.self h1.1) (RV.self h2.1) (RV.self h3.1) (RV.self h4.1) (RV.self h5.1) w).mono fun e w' ⟨⟨r, he, hr⟩, n, hb⟩ => ⟨_, he, fun a b c x y z hh => by cases hh; exact ⟨r, rfl, hr⟩, by rw [hb]; exact Bd (Below.refl _ _) n⟩
theorem Gi159 {a b c x y z : Nat} {A B C X Y Z : Int} {v : Value} (hv : GInv 81 #[.float .f64 a, .float .f64 b, .float .f64 c, .float .f64 x, .float .f64 y, .float .f64 z] v) (h0 : RV a A) (h1 : RV b B) (h2 : RV c C) (h3 : RV x X) (h4 : RV y Y) (h5 : RV z Z) : ∃ r : Nat, v = .float .f64 r ∧ RV r (downP A B C X Y Z) := by
  obtain ⟨_, rfl⟩ := h0
  obtain ⟨_, rfl⟩ := h1
  obtain ⟨_, rfl⟩ := h2
  obtain ⟨_, rfl⟩ := h3
  obtain ⟨_, rfl⟩ := h4
  obtain ⟨_, rfl⟩ := h5
  exact hv _ _ _ _ _ _ rfl
/-- the first k of sixteen words are divided -/
def DivS (f : Nat → Int) (D : Int) (os : List Nat) (k : Nat) : Prop := os.length = 16 ∧ ∀ j, j < 16 → RV (os.getD j 0) (if j < k then opP .quo (f j) D else f j)
theorem div_step {f : Nat → Int} {D : Int} {os : List Nat} {k r : Nat} (h : DivS f D os k) (hk : k < 16) (hr : RV r (opP .quo (f k) D)) : DivS f D (os.set k r) (k + 1) :=
  ⟨by rw [List.length_set]; exact h.1, fun j hj => by
    by_cases hjc : j = k
    · subst hjc
      rw [List.getD_eq_getElem?_getD, List.getElem?_set_self (by rw [h.1]; exact hk), if_pos (by omega)]
      exact hr
    · rw [List.getD_eq_getElem?_getD, List.getElem?_set_ne (fun e => hjc e.symm), ← List.getD_eq_getElem?_getD]
      have := h.2 j hj
      by_cases hl : j < k
      · rw [if_pos (by omega)]; rwa [if_pos hl] at this
      · rw [if_neg (by omega)]; rwa [if_neg hl] at this⟩
theorem div_get {f : Nat → Int} {D : Int} {os : List Nat} {k : Nat} (h : DivS f D os k) (hk : k < 16) : ∃ x, os[k]? = some x ∧ RV x (f k) := by
  have hl : k < os.length := by rw [h.1]; exact hk
  have := h.2 k hk
  rw [if_neg (by omega), List.getD_eq_getElem?_getD, List.getElem?_eq_getElem hl] at this
  exact ⟨_, List.getElem?_eq_getElem hl, this⟩
theorem div_end {f : Nat → Int} {D : Int} {os : List Nat} (h : DivS f D os 16) : MU os ∧ ∀ j, j < 16 → mp os j = opP .quo (f j) D :=
  pl_MU ⟨h.1, fun j hj => by have := h.2 j hj; rwa [if_pos hj] at this⟩
structure IW (wx w : World) (A : List Value) (g : Nat) (os : List Nat) : Prop where
  o : One wx w A 16
  r : wx.rangeAt g 0 (os.map (Value.float .f64))
  t : wx.there g 0 16
  l : w.heap.size + 1 < g ∧ g < wx.heap.size
theorem iw_below {wx wy w : World} {A : List Value} {g : Nat} {os : List Nat} (h : IW wx w A g os) (hb : Below wx.heap.size wx wy) : IW wy w A g os :=
  ⟨one_below h.o hb, range_below h.r hb h.l.2, there_below h.t hb h.l.2, h.l.1, Nat.lt_of_lt_of_le h.l.2 hb.size⟩
theorem iw_set {wx w : World} {A : List Value} {g : Nat} {os : List Nat} (h : IW wx w A g os) (k x : Nat) : IW (wx.setCell ⟨g, k, none⟩ (.float .f64 x)) w A g (os.set k x) := by
  have hb : Below g wx (wx.setCell ⟨g, k, none⟩ (.float .f64 x)) := (Below.refl g wx).setCell (p := ⟨g, k, none⟩) (Nat.le_refl _) _
  have hl := h.l
  exact ⟨⟨range_below h.o.r1 hb (by omega), there_below h.o.t hb (by omega), h.o.b.setCell (by simp; omega) _, Nat.lt_of_lt_of_le h.o.lt hb.size⟩, range_set h.r x, there_set h.t _ _, h.l.1, Nat.lt_of_lt_of_le h.l.2 hb.size⟩
theorem iw_drew {wx w : World} {A : List Value} {g : Nat} {os : List Nat} (h : IW wx w A g os) (n : Nat) : IW (wx.drewN n) w A g os := iw_below h (Bd (Below.refl _ _) n)
section
variable {ops : Array Oper} {C : World → Prop} {D : Nat → Option Nat} {Q : Act → Prop} {rest : List Oper} {a : Act}
theorem ch157 {s m bb bm bq i0 j0 i1 j1 i2 j2 x0 y0 x1 y1 x2 y2 : Nat} {X0 Y0 X1 Y1 X2 Y2 : Int} {z0 u0 z1 u1 z2 u2 : Int} {T0 T1 T2 T3 T4 T5 T6 T7 T8 T9 T10 T11 T12 : TypeId} {p0 p1 p2 p3 p4 p5 p6 p7 p8 p9 p10 p11 p12 : String} {f0 f1 f2 f3 f4 f5 f6 f7 f8 f9 f10 f11 f12 : Array Edge} {tys : Array TypeId}
    (hm : a.tmps.getD 1 undef = .pointer (some ⟨bm, 0, none⟩)) (hq : a.tmps.getD bb undef = .pointer (some ⟨bq, 0, none⟩)) (hf : a.tmps.getD m undef = .func (.func 79) #[] #[]) (hms : m < s) (h1 : 1 < s) (hbb : bb < s) (hs : s + 12 < a.tmps.size) (hD : ∀ t, s ≤ t → t < s + 13 → D t = none)
    (e0 : z0 = (i0 : Int) ∧ i0 < 16) (e1 : u0 = (j0 : Int) ∧ j0 < 6) (e2 : z1 = (i1 : Int) ∧ i1 < 16) (e3 : u1 = (j1 : Int) ∧ j1 < 6) (e4 : z2 = (i2 : Int) ∧ i2 < 16) (e5 : u2 = (j2 : Int) ∧ j2 < 6)
    (c0 : ∀ w, C w → w.cell? ⟨bm, 0 + i0, none⟩ = some (.float .f64 x0)) (c1 : ∀ w, C w → w.cell? ⟨bq, 0 + j0, none⟩ = some (.float .f64 y0))
    (c2 : ∀ w, C w → w.cell? ⟨bm, 0 + i1, none⟩ = some (.float .f64 x1)) (c3 : ∀ w, C w → w.cell? ⟨bq, 0 + j1, none⟩ = some (.float .f64 y1))
    (c4 : ∀ w, C w → w.cell? ⟨bm, 0 + i2, none⟩ = some (.float .f64 x2)) (c5 : ∀ w, C w → w.cell? ⟨bq, 0 + j2, none⟩ = some (.float .f64 y2))
    (r0 : RV x0 X0) (r1 : RV y0 Y0) (r2 : RV x1 X1) (r3 : RV y1 Y1) (r4 : RV x2 X2) (r5 : RV y2 Y2)
    (k : ∀ r a', Ext a a' s → a'.tmps.getD (s + 12) undef = .float .f64 r → RV r (upP X0 Y0 X1 Y1 X2 Y2) → RB.wpRel Try.prog ops C GInv (RB.SA D) Q rest a') :
    RB.wpRel Try.prog ops C GInv (RB.SA D) Q (⟨some s, .indexAddr 44 (.tmp 1) (.const (.int .i64 z0)), T0, p0, f0, none⟩ :: ⟨some (s + 1), .load 31 (.tmp s), T1, p1, f1, none⟩ ::
      ⟨some (s + 2), .indexAddr 143 (.tmp bb) (.const (.int .i64 u0)), T2, p2, f2, none⟩ :: ⟨some (s + 3), .load 31 (.tmp (s + 2)), T3, p3, f3, none⟩ ::
      ⟨some (s + 4), .indexAddr 44 (.tmp 1) (.const (.int .i64 z1)), T4, p4, f4, none⟩ :: ⟨some (s + 5), .load 31 (.tmp (s + 4)), T5, p5, f5, none⟩ ::
      ⟨some (s + 6), .indexAddr 143 (.tmp bb) (.const (.int .i64 u1)), T6, p6, f6, none⟩ :: ⟨some (s + 7), .load 31 (.tmp (s + 6)), T7, p7, f7, none⟩ ::
      ⟨some (s + 8), .indexAddr 44 (.tmp 1) (.const (.int .i64 z2)), T8, p8, f8, none⟩ :: ⟨some (s + 9), .load 31 (.tmp (s + 8)), T9, p9, f9, none⟩ ::
      ⟨some (s + 10), .indexAddr 143 (.tmp bb) (.const (.int .i64 u2)), T10, p10, f10, none⟩ :: ⟨some (s + 11), .load 31 (.tmp (s + 10)), T11, p11, f11, none⟩ ::
      ⟨some (s + 12), .call { callee := .value (.tmp m), args := #[.tmp (s + 1), .tmp (s + 3), .tmp (s + 5), .tmp (s + 7), .tmp (s + 9), .tmp (s + 11)], argTypes := tys }, T12, p12, f12, none⟩ :: rest) a := by
  refine pairs6 hm hq h1 hbb (by omega) (fun t h h' => hD t h (by omega)) e0 e1 e2 e3 e4 e5 c0 c1 c2 c3 c4 c5 (fun a' E v0 v1 v2 v3 v4 v5 => ?_)
  have hz := E.size
  have hf' : a'.tmps.getD m undef = .func (.func 79) #[] #[] := (E.low m hms).trans hf
  refine RB.rel_call (f := 79) (args := #[.float .f64 x0, .float .f64 y0, .float .f64 x1, .float .f64 y1, .float .f64 x2, .float .f64 y2]) rfl (hD (s + 12) (by omega) (by omega)) (fun w' hw => ?_) (fun w' hw => gi157 r0 r1 r2 r3 r4 r5 w') (fun v hv => ?_)
  · unfold execOp
    simp only [Act.eval, List.map_toArray, List.map_cons, List.map_nil, v0, v1, v2, v3, v4, v5, hf']
    go_simp
  obtain ⟨r, rfl, hr⟩ := Gi157 hv r0 r1 r2 r3 r4 r5
  exact k r _ (E.trans (Ext.put (Nat.le_refl _) _) (by omega)) (at_put (by omega) _) hr
theorem ch159 {s m bb bm bq i0 j0 i1 j1 i2 j2 x0 y0 x1 y1 x2 y2 : Nat} {X0 Y0 X1 Y1 X2 Y2 : Int} {z0 u0 z1 u1 z2 u2 : Int} {T0 T1 T2 T3 T4 T5 T6 T7 T8 T9 T10 T11 T12 : TypeId} {p0 p1 p2 p3 p4 p5 p6 p7 p8 p9 p10 p11 p12 : String} {f0 f1 f2 f3 f4 f5 f6 f7 f8 f9 f10 f11 f12 : Array Edge} {tys : Array TypeId}
    (hm : a.tmps.getD 1 undef = .pointer (some ⟨bm, 0, none⟩)) (hq : a.tmps.getD bb undef = .pointer (some ⟨bq, 0, none⟩)) (hf : a.tmps.getD m undef = .func (.func 81) #[] #[]) (hms : m < s) (h1 : 1 < s) (hbb : bb < s) (hs : s + 12 < a.tmps.size) (hD : ∀ t, s ≤ t → t < s + 13 → D t = none)
    (e0 : z0 = (i0 : Int) ∧ i0 < 16) (e1 : u0 = (j0 : Int) ∧ j0 < 6) (e2 : z1 = (i1 : Int) ∧ i1 < 16) (e3 : u1 = (j1 : Int) ∧ j1 < 6) (e4 : z2 = (i2 : Int) ∧ i2 < 16) (e5 : u2 = (j2 : Int) ∧ j2 < 6)
    (c0 : ∀ w, C w → w.cell? ⟨bm, 0 + i0, none⟩ = some (.float .f64 x0)) (c1 : ∀ w, C w → w.cell? ⟨bq, 0 + j0, none⟩ = some (.float .f64 y0))
    (c2 : ∀ w, C w → w.cell? ⟨bm, 0 + i1, none⟩ = some (.float .f64 x1)) (c3 : ∀ w, C w → w.cell? ⟨bq, 0 + j1, none⟩ = some (.float .f64 y1))
    (c4 : ∀ w, C w → w.cell? ⟨bm, 0 + i2, none⟩ = some (.float .f64 x2)) (c5 : ∀ w, C w → w.cell? ⟨bq, 0 + j2, none⟩ = some (.float .f64 y2))
    (r0 : RV x0 X0) (r1 : RV y0 Y0) (r2 : RV x1 X1) (r3 : RV y1 Y1) (r4 : RV x2 X2) (r5 : RV y2 Y2)
    (k : ∀ r a', Ext a a' s → a'.tmps.getD (s + 12) undef = .float .f64 r → RV r (downP X0 Y0 X1 Y1 X2 Y2) → RB.wpRel Try.prog ops C GInv (RB.SA D) Q rest a') :
    RB.wpRel Try.prog ops C GInv (RB.SA D) Q (⟨some s, .indexAddr 44 (.tmp 1) (.const (.int .i64 z0)), T0, p0, f0, none⟩ :: ⟨some (s + 1), .load 31 (.tmp s), T1, p1, f1, none⟩ ::
      ⟨some (s + 2), .indexAddr 143 (.tmp bb) (.const (.int .i64 u0)), T2, p2, f2, none⟩ :: ⟨some (s + 3), .load 31 (.tmp (s + 2)), T3, p3, f3, none⟩ ::
      ⟨some (s + 4), .indexAddr 44 (.tmp 1) (.const (.int .i64 z1)), T4, p4, f4, none⟩ :: ⟨some (s + 5), .load 31 (.tmp (s + 4)), T5, p5, f5, none⟩ ::
      ⟨some (s + 6), .indexAddr 143 (.tmp bb) (.const (.int .i64 u1)), T6, p6, f6, none⟩ :: ⟨some (s + 7), .load 31 (.tmp (s + 6)), T7, p7, f7, none⟩ ::
      ⟨some (s + 8), .indexAddr 44 (.tmp 1) (.const (.int .i64 z2)), T8, p8, f8, none⟩ :: ⟨some (s + 9), .load 31 (.tmp (s + 8)), T9, p9, f9, none⟩ ::
      ⟨some (s + 10), .indexAddr 143 (.tmp bb) (.const (.int .i64 u2)), T10, p10, f10, none⟩ :: ⟨some (s + 11), .load 31 (.tmp (s + 10)), T11, p11, f11, none⟩ ::
      ⟨some (s + 12), .call { callee := .value (.tmp m), args := #[.tmp (s + 1), .tmp (s + 3), .tmp (s + 5), .tmp (s + 7), .tmp (s + 9), .tmp (s + 11)], argTypes := tys }, T12, p12, f12, none⟩ :: rest) a := by
  refine pairs6 hm hq h1 hbb (by omega) (fun t h h' => hD t h (by omega)) e0 e1 e2 e3 e4 e5 c0 c1 c2 c3 c4 c5 (fun a' E v0 v1 v2 v3 v4 v5 => ?_)
  have hz := E.size
  have hf' : a'.tmps.getD m undef = .func (.func 81) #[] #[] := (E.low m hms).trans hf
  refine RB.rel_call (f := 81) (args := #[.float .f64 x0, .float .f64 y0, .float .f64 x1, .float .f64 y1, .float .f64 x2, .float .f64 y2]) rfl (hD (s + 12) (by omega) (by omega)) (fun w' hw => ?_) (fun w' hw => gi159 r0 r1 r2 r3 r4 r5 w') (fun v hv => ?_)
  · unfold execOp
    simp only [Act.eval, List.map_toArray, List.map_cons, List.map_nil, v0, v1, v2, v3, v4, v5, hf']
    go_simp
  obtain ⟨r, rfl, hr⟩ := Gi159 hv r0 r1 r2 r3 r4 r5
  exact k r _ (E.trans (Ext.put (Nat.le_refl _) _) (by omega)) (at_put (by omega) _) hr
theorem rb_gen (R : Act → Prop) (h : R a) (k : ∀ a, R a → RB.wpRel Try.prog ops C GInv (RB.SA D) Q rest a) : RB.wpRel Try.prog ops C GInv (RB.SA D) Q rest a := k a h
end
theorem range_list (us : Array Value) (n : Nat) (h : us.size = n) : us = ((List.range n).map (fun t => us.getD t undef)).toArray := by
  subst h
  apply Array.ext
  · simp
  · intro i h1 h2
    simp [h1]
set_option maxRecDepth 100000 in
theorem frame277 (a : Act) (h : a.tmps.size = 277) (hd : a.defers = []) (f : Nat → Value) (hf : ∀ t, a.tmps.getD t undef = f t) : a = ⟨#[f 0, f 1, f 2, f 3, f 4, f 5, f 6, f 7, f 8, f 9, f 10, f 11, f 12, f 13, f 14, f 15, f 16, f 17, f 18, f 19, f 20, f 21, f 22, f 23, f 24, f 25, f 26, f 27, f 28, f 29, f 30, f 31, f 32, f 33, f 34, f 35, f 36, f 37, f 38, f 39, f 40, f 41, f 42, f 43, f 44, f 45, f 46, f 47, f 48, f 49, f 50, f 51, f 52, f 53, f 54, f 55, f 56, f 57, f 58, f 59, f 60, f 61, f 62, f 63, f 64, f 65, f 66, f 67, f 68, f 69, f 70, f 71, f 72, f 73, f 74, f 75, f 76, f 77, f 78, f 79, f 80, f 81, f 82, f 83, f 84, f 85, f 86, f 87, f 88, f 89, f 90, f 91, f 92, f 93, f 94, f 95, f 96, f 97, f 98, f 99, f 100, f 101, f 102, f 103, f 104, f 105, f 106, f 107, f 108, f 109, f 110, f 111, f 112, f 113, f 114, f 115, f 116, f 117, f 118, f 119, f 120, f 121, f 122, f 123, f 124, f 125, f 126, f 127, f 128, f 129, f 130, f 131, f 132, f 133, f 134, f 135, f 136, f 137, f 138, f 139, f 140, f 141, f 142, f 143, f 144, f 145, f 146, f 147, f 148, f 149, f 150, f 151, f 152, f 153, f 154, f 155, f 156, f 157, f 158, f 159, f 160, f 161, f 162, f 163, f 164, f 165, f 166, f 167, f 168, f 169, f 170, f 171, f 172, f 173, f 174, f 175, f 176, f 177, f 178, f 179, f 180, f 181, f 182, f 183, f 184, f 185, f 186, f 187, f 188, f 189, f 190, f 191, f 192, f 193, f 194, f 195, f 196, f 197, f 198, f 199, f 200, f 201, f 202, f 203, f 204, f 205, f 206, f 207, f 208, f 209, f 210, f 211, f 212, f 213, f 214, f 215, f 216, f 217, f 218, f 219, f 220, f 221, f 222, f 223, f 224, f 225, f 226, f 227, f 228, f 229, f 230, f 231, f 232, f 233, f 234, f 235, f 236, f 237, f 238, f 239, f 240, f 241, f 242, f 243, f 244, f 245, f 246, f 247, f 248, f 249, f 250, f 251, f 252, f 253, f 254, f 255, f 256, f 257, f 258, f 259, f 260, f 261, f 262, f 263, f 264, f 265, f 266, f 267, f 268, f 269, f 270, f 271, f 272, f 273, f 274, f 275, f 276], []⟩ := by
  obtain ⟨tm, df⟩ := a
  subst hd
  have e := range_list tm 277 h
  rw [show (fun t => tm.getD t undef) = f from funext hf] at e
  exact congrArg (fun t => Act.mk t []) e
end Go.Proofs.Ytedkbjimofiphaa

namespace Go.Proofs.Ytedkbjimofiphaa
open Go.RowKit Fl
end Go.Proofs.Ytedkbjimofiphaa
