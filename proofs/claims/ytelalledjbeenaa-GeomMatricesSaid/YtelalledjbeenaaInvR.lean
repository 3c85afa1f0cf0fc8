/- A region of many loads and calls, walked with its frame unsaid: what each step leaves, slot by slot. -/
import Derived.Test.YtelalledjbeenaaInvA
import Derived.Test.YtelalledjbeenaaGeoY
namespace Go.Proofs.Ytelalledjbeenaa
open Go.RowKit Fl

/-- a frame that is another one's but for slots from lo on -/
structure Ext (a a' : Act) (lo : Nat) : Prop where
  size : a'.tmps.size = a.tmps.size
  defers : a'.defers = a.defers
  low : ∀ t, t < lo → a'.tmps.getD t undef = a.tmps.getD t undef
theorem Ext.refl (a : Act) (lo : Nat) : Ext a a lo := ⟨rfl, rfl, fun _ _ => rfl⟩
theorem Ext.trans {a b c : Act} {l m : Nat} (h : Ext a b l) (k : Ext b c m) (hl : l ≤ m) : Ext a c l := ⟨k.size.trans h.size, k.defers.trans h.defers, fun t ht => (k.low t (by omega)).trans (h.low t ht)⟩
theorem Ext.put {a : Act} {lo d : Nat} (h : lo ≤ d) (v : Value) : Ext a (a.put (some d) v) lo :=
  ⟨by unfold Act.put; simp, rfl, fun t ht => RB.put_other a (by omega) v⟩
theorem at_put {a : Act} {d : Nat} (h : d < a.tmps.size) (v : Value) : (a.put (some d) v).tmps.getD d undef = v := by
  unfold Act.put
  simp only [Array.getD_eq_getD_getElem?, Array.getElem?_setIfInBounds]
  simp [h]
section
variable {ops : Array Oper} {C : World → Prop} {G : FuncId → Array Value → Value → Prop} {D : Nat → Option Nat} {Q : Act → Prop} {rest : List Oper} {a : Act}
theorem ix80 {d base i b : Nat} {z : Int} {T : TypeId} {pos : String} {af : Array Edge} (hb : a.tmps.getD base undef = .pointer (some ⟨b, 0, none⟩)) (hz : z = (i : Int)) (hi : i < 16) (hd : D d = none)
    (k : RB.wpRel Try.prog ops C G (RB.SA D) Q rest (a.put (some d) (.pointer (some ⟨b, i, none⟩)))) : RB.wpRel Try.prog ops C G (RB.SA D) Q (⟨some d, .indexAddr 80 (.tmp base) (.const (.int .i64 z)), T, pos, af, none⟩ :: rest) a := by
  subst hz
  have h1 : (i : Int) < 16 := by omega
  have h2 : (0 : Int) ≤ (i : Int) := by omega
  have hx : a.eval (.tmp base) = .pointer (some ⟨b, 0, none⟩) := hb
  exact RB.rel_val rfl hd (fun w hc => by
    unfold execOp
    simp only [hx, show a.eval (.const (.int .i64 (i : Int))) = .int .i64 (i : Int) from rfl]
    go_simp) k
theorem ix152 {d base i b : Nat} {z : Int} {T : TypeId} {pos : String} {af : Array Edge} (hb : a.tmps.getD base undef = .pointer (some ⟨b, 0, none⟩)) (hz : z = (i : Int)) (hi : i < 6) (hd : D d = none)
    (k : RB.wpRel Try.prog ops C G (RB.SA D) Q rest (a.put (some d) (.pointer (some ⟨b, i, none⟩)))) : RB.wpRel Try.prog ops C G (RB.SA D) Q (⟨some d, .indexAddr 152 (.tmp base) (.const (.int .i64 z)), T, pos, af, none⟩ :: rest) a := by
  subst hz
  have h1 : (i : Int) < 6 := by omega
  have h2 : (0 : Int) ≤ (i : Int) := by omega
  have hx : a.eval (.tmp base) = .pointer (some ⟨b, 0, none⟩) := hb
  exact RB.rel_val rfl hd (fun w hc => by
    unfold execOp
    simp only [hx, show a.eval (.const (.int .i64 (i : Int))) = .int .i64 (i : Int) from rfl]
    go_simp) k
theorem pair80 {d base i b r : Nat} {z : Int} {T T' : TypeId} {pos pos' : String} {af af' : Array Edge} (hb : a.tmps.getD base undef = .pointer (some ⟨b, 0, none⟩)) (hz : z = (i : Int)) (hi : i < 16) (hD : ∀ t, d ≤ t → t < d + 2 → D t = none)
    (hs : d + 1 < a.tmps.size) (hS : ∀ w, C w → w.cell? ⟨b, 0 + i, none⟩ = some (.float .f64 r))
    (k : ∀ a', Ext a a' d → a'.tmps.getD (d + 1) undef = .float .f64 r → RB.wpRel Try.prog ops C G (RB.SA D) Q rest a') :
    RB.wpRel Try.prog ops C G (RB.SA D) Q (⟨some d, .indexAddr 80 (.tmp base) (.const (.int .i64 z)), T, pos, af, none⟩ :: ⟨some (d + 1), .load 24 (.tmp d), T', pos', af', none⟩ :: rest) a := by
  refine ix80 hb hz hi (hD d (Nat.le_refl _) (by omega)) ?_
  refine RB.rel_loadF b i r (at_put (by omega) _) rfl (hD (d + 1) (by omega) (by omega)) hS ?_
  refine k _ ((Ext.put (Nat.le_refl d) _).trans (Ext.put (Nat.le_refl _) _) (by omega)) (at_put ?_ _)
  rw [(Ext.put (Nat.le_refl d) _).size]; omega
theorem pair152 {d base i b r : Nat} {z : Int} {T T' : TypeId} {pos pos' : String} {af af' : Array Edge} (hb : a.tmps.getD base undef = .pointer (some ⟨b, 0, none⟩)) (hz : z = (i : Int)) (hi : i < 6) (hD : ∀ t, d ≤ t → t < d + 2 → D t = none)
    (hs : d + 1 < a.tmps.size) (hS : ∀ w, C w → w.cell? ⟨b, 0 + i, none⟩ = some (.float .f64 r))
    (k : ∀ a', Ext a a' d → a'.tmps.getD (d + 1) undef = .float .f64 r → RB.wpRel Try.prog ops C G (RB.SA D) Q rest a') :
    RB.wpRel Try.prog ops C G (RB.SA D) Q (⟨some d, .indexAddr 152 (.tmp base) (.const (.int .i64 z)), T, pos, af, none⟩ :: ⟨some (d + 1), .load 24 (.tmp d), T', pos', af', none⟩ :: rest) a := by
  refine ix152 hb hz hi (hD d (Nat.le_refl _) (by omega)) ?_
  refine RB.rel_loadF b i r (at_put (by omega) _) rfl (hD (d + 1) (by omega) (by omega)) hS ?_
  refine k _ ((Ext.put (Nat.le_refl d) _).trans (Ext.put (Nat.le_refl _) _) (by omega)) (at_put ?_ _)
  rw [(Ext.put (Nat.le_refl d) _).size]; omega
/-- six loads, in turn out of the matrix and out of minors -/
theorem pairs6 {s bb bm bq i0 j0 i1 j1 i2 j2 x0 y0 x1 y1 x2 y2 : Nat} {z0 u0 z1 u1 z2 u2 : Int} {T0 T1 T2 T3 T4 T5 T6 T7 T8 T9 T10 T11 : TypeId} {p0 p1 p2 p3 p4 p5 p6 p7 p8 p9 p10 p11 : String} {f0 f1 f2 f3 f4 f5 f6 f7 f8 f9 f10 f11 : Array Edge}
    (hm : a.tmps.getD 1 undef = .pointer (some ⟨bm, 0, none⟩)) (hq : a.tmps.getD bb undef = .pointer (some ⟨bq, 0, none⟩)) (h1 : 1 < s) (hbb : bb < s) (hs : s + 11 < a.tmps.size) (hD : ∀ t, s ≤ t → t < s + 12 → D t = none)
    (e0 : z0 = (i0 : Int) ∧ i0 < 16) (e1 : u0 = (j0 : Int) ∧ j0 < 6) (e2 : z1 = (i1 : Int) ∧ i1 < 16) (e3 : u1 = (j1 : Int) ∧ j1 < 6) (e4 : z2 = (i2 : Int) ∧ i2 < 16) (e5 : u2 = (j2 : Int) ∧ j2 < 6)
    (c0 : ∀ w, C w → w.cell? ⟨bm, 0 + i0, none⟩ = some (.float .f64 x0)) (c1 : ∀ w, C w → w.cell? ⟨bq, 0 + j0, none⟩ = some (.float .f64 y0))
    (c2 : ∀ w, C w → w.cell? ⟨bm, 0 + i1, none⟩ = some (.float .f64 x1)) (c3 : ∀ w, C w → w.cell? ⟨bq, 0 + j1, none⟩ = some (.float .f64 y1))
    (c4 : ∀ w, C w → w.cell? ⟨bm, 0 + i2, none⟩ = some (.float .f64 x2)) (c5 : ∀ w, C w → w.cell? ⟨bq, 0 + j2, none⟩ = some (.float .f64 y2))
    (k : ∀ a', Ext a a' s → a'.tmps.getD (s + 1) undef = .float .f64 x0 → a'.tmps.getD (s + 3) undef = .float .f64 y0 → a'.tmps.getD (s + 5) undef = .float .f64 x1 → a'.tmps.getD (s + 7) undef = .float .f64 y1 → a'.tmps.getD (s + 9) undef = .float .f64 x2 → a'.tmps.getD (s + 11) undef = .float .f64 y2 →
      RB.wpRel Try.prog ops C G (RB.SA D) Q rest a') :
    RB.wpRel Try.prog ops C G (RB.SA D) Q (⟨some s, .indexAddr 80 (.tmp 1) (.const (.int .i64 z0)), T0, p0, f0, none⟩ :: ⟨some (s + 1), .load 24 (.tmp s), T1, p1, f1, none⟩ ::
      ⟨some (s + 2), .indexAddr 152 (.tmp bb) (.const (.int .i64 u0)), T2, p2, f2, none⟩ :: ⟨some (s + 3), .load 24 (.tmp (s + 2)), T3, p3, f3, none⟩ ::
      ⟨some (s + 4), .indexAddr 80 (.tmp 1) (.const (.int .i64 z1)), T4, p4, f4, none⟩ :: ⟨some (s + 5), .load 24 (.tmp (s + 4)), T5, p5, f5, none⟩ ::
      ⟨some (s + 6), .indexAddr 152 (.tmp bb) (.const (.int .i64 u1)), T6, p6, f6, none⟩ :: ⟨some (s + 7), .load 24 (.tmp (s + 6)), T7, p7, f7, none⟩ ::
      ⟨some (s + 8), .indexAddr 80 (.tmp 1) (.const (.int .i64 z2)), T8, p8, f8, none⟩ :: ⟨some (s + 9), .load 24 (.tmp (s + 8)), T9, p9, f9, none⟩ ::
      ⟨some (s + 10), .indexAddr 152 (.tmp bb) (.const (.int .i64 u2)), T10, p10, f10, none⟩ :: ⟨some (s + 11), .load 24 (.tmp (s + 10)), T11, p11, f11, none⟩ :: rest) a := by
  refine pair80 hm e0.1 e0.2 (fun t h h' => hD t (by omega) (by omega)) (by omega) c0 (fun a1 E1 v1 => ?_)
  have z1' := E1.size
  refine pair152 (d := s + 2) ((E1.low bb hbb).trans hq) e1.1 e1.2 (fun t h h' => hD t (by omega) (by omega)) (by omega) c1 (fun a2 E2 v2 => ?_)
  have z2' := E2.size
  have F2 := E1.trans E2 (by omega)
  refine pair80 (d := s + 4) ((F2.low 1 h1).trans hm) e2.1 e2.2 (fun t h h' => hD t (by omega) (by omega)) (by omega) c2 (fun a3 E3 v3 => ?_)
  have z3' := E3.size
  have F3 := F2.trans E3 (by omega)
  refine pair152 (d := s + 6) ((F3.low bb hbb).trans hq) e3.1 e3.2 (fun t h h' => hD t (by omega) (by omega)) (by omega) c3 (fun a4 E4 v4 => ?_)
  have z4' := E4.size
  have F4 := F3.trans E4 (by omega)
  refine pair80 (d := s + 8) ((F4.low 1 h1).trans hm) e4.1 e4.2 (fun t h h' => hD t (by omega) (by omega)) (by omega) c4 (fun a5 E5 v5 => ?_)
  have z5' := E5.size
  have F5 := F4.trans E5 (by omega)
  refine pair152 (d := s + 10) ((F5.low bb hbb).trans hq) e5.1 e5.2 (fun t h h' => hD t (by omega) (by omega)) (by omega) c5 (fun a6 E6 v6 => ?_)
  refine k a6 (F5.trans E6 (by omega)) ?_ ?_ ?_ ?_ ?_ v6
  · exact (E6.low _ (by omega)).trans ((E5.low _ (by omega)).trans ((E4.low _ (by omega)).trans ((E3.low _ (by omega)).trans ((E2.low _ (by omega)).trans v1))))
  · exact (E6.low _ (by omega)).trans ((E5.low _ (by omega)).trans ((E4.low _ (by omega)).trans ((E3.low _ (by omega)).trans v2)))
  · exact (E6.low _ (by omega)).trans ((E5.low _ (by omega)).trans ((E4.low _ (by omega)).trans v3))
  · exact (E6.low _ (by omega)).trans ((E5.low _ (by omega)).trans v4)
  · exact (E6.low _ (by omega)).trans v5
end
end Go.Proofs.Ytelalledjbeenaa
