/- Invert of both sides: printed by geo23.py. The head of all statements of layer 15: 'awake' answers true. What the callees of the laws' drawn regions may answer: printed by geo14.py. The walk of GeomRects: printed by geo15.py. The walk of GeomMatrices: printed by geo24.py. -/
import Derived.Test.YtedkbjimofiphaaInvC
import Derived.Test.YtedkbjimofiphaaMgRelS
namespace Go.Proofs.Ytedkbjimofiphaa
open Go.RowKit Fl

theorem rv_qr : RV QR 9223372036854775807 := ⟨by unfold U QR; decide, by decide⟩
theorem nan_all : MU (nanK 16) ∧ ∀ j, j < 16 → mp (nanK 16) j = 9223372036854775807 := by
  refine ⟨⟨nanK_len 16, fun x hx => ?_⟩, fun j hj => ?_⟩
  · unfold nanK at hx
    obtain ⟨j, hj, rfl⟩ := List.mem_map.1 hx
    rw [if_pos (List.mem_range.1 hj)]
    unfold U QN; decide
  · rcases (by omega : j = 0 ∨ j = 1 ∨ j = 2 ∨ j = 3 ∨ j = 4 ∨ j = 5 ∨ j = 6 ∨ j = 7 ∨ j = 8 ∨ j = 9 ∨ j = 10 ∨ j = 11 ∨ j = 12 ∨ j = 13 ∨ j = 14 ∨ j = 15) with rfl | rfl | rfl | rfl | rfl | rfl | rfl | rfl | rfl | rfl | rfl | rfl | rfl | rfl | rfl | rfl <;> decide
theorem inv_nan {ms : List Nat} (hok : invOk (detP (mp ms)) = false) : InvR (mp ms) (.returned (.tuple #[.agg ((nanK 16).map (Value.float .f64)).toArray, .bool false])) :=
  ⟨nanK 16, by rw [hok], nan_all.1, fun j h => by rw [hok, if_neg Bool.false_ne_true]; exact nan_all.2 j h⟩
theorem k97 {ms : List Nat} (hm : MU ms) (w : World) : Calls Try.prog 63 #[.agg (ms.map (Value.float .f64)).toArray] w fun e w' => InvR (mp ms) e ∧ Below w.heap.size w w' := by
  cases hok : invOk (detP (mp ms))
  · have hc : ∀ x, RV x (detP (mp ms)) → pCls x = 0 ∨ pCls x = 3 ∨ pCls x = 4 := fun x hx => (cls_place x hx.1).2 (by rw [hx.2]; exact hok)
    by_cases h3 : pCls (atW (detP (mp ms))) = 3
    · exact (k97c3 hm (fun x hx => (cls_of _ x hx).trans h3) w).mono fun e w' ⟨he, hb⟩ => ⟨by rw [he]; exact inv_nan hok, hb⟩
    · by_cases h4 : pCls (atW (detP (mp ms))) = 4
      · exact (k97c4 hm (fun x hx => (cls_of _ x hx).trans h4) w).mono fun e w' ⟨he, hb⟩ => ⟨by rw [he]; exact inv_nan hok, hb⟩
      · exact (k97z hm (fun x hx => by
          have h := cls_of _ x hx
          rcases hc x hx with c | c | c
          · exact c
          · exact absurd (h.symm.trans c) h3
          · exact absurd (h.symm.trans c) h4) w).mono fun e w' ⟨he, hb⟩ => ⟨by rw [he]; exact inv_nan hok, hb⟩
  · exact (k97y hm (fun x hx => (cls_place x hx.1).1 (by rw [hx.2]; exact hok)) w).mono fun e w' ⟨⟨os, he, hu, hj⟩, hb⟩ => ⟨⟨os, by rw [hok]; exact he, hu, fun j h => by rw [hok, if_pos rfl]; exact hj j h⟩, hb⟩
end Go.Proofs.Ytedkbjimofiphaa

namespace Go.Proofs.Ytedkbjimofiphaa
open Go.RowKit Fl

theorem word_of_placeG {x y : Nat} (hx : U x) (hy : U y) (h : pl x = pl y) (hn : isN y = false) : x = y := by
  rcases (pl_eq_iff hx hy).1 h with h | h
  · exact h
  · rw [hn] at h; exact absurd h.2 Bool.false_ne_true
theorem word_is {x : Nat} {P : Int} (h : RV x P) (y : Nat) (hy : U y) (hn : isN y = false) (he : P = pl y) : x = y := word_of_placeG h.1 hy (h.2.trans he) hn
theorem lit {x : Nat} (h : U x) : RV x (pl x) := RV.self h
theorem eqF (w : World) (x : Nat) (h : (FloatKind.f64.format.order x x == some .eq) = true) : (Op.equalIn 9999 31 (.float .f64 x) (.float .f64 x)).run Try.prog w = .ok true w := by
  have hu : Try.prog.underlying 31 = some (.float .f64) := Try.underlying31
  unfold Op.equalIn
  simp only [Sem.run_bind, run_underlying hu, Result.andThen_ok, Sem.run_pure]
  rw [show Op.floatEq FloatKind.f64 x x = true from h, if_pos trivial]
  rfl
structure Kp (wx : World) (g : Nat) (cs : List Value) : Prop where
  r : wx.rangeAt g 0 cs
  l : g < wx.heap.size
theorem Kp.below {wx wy : World} {g : Nat} {cs : List Value} (h : Kp wx g cs) (hb : Below wx.heap.size wx wy) : Kp wy g cs := ⟨range_below h.r hb h.l, Nat.lt_of_lt_of_le h.l hb.size⟩
theorem kp_new (w : World) (cs : List Value) (t : TypeId) : Kp (w.alloc (.cells cs.toArray t)) w.heap.size cs := ⟨range_new w cs t, by simp⟩
theorem foldP_congr {f : Int → Int → Int} {p q : Nat → Int} (h : ∀ j, j < 16 → p j = q j) {o : Nat} (ho : o < 4) : foldP f p o 3 = foldP f q o 3 := by
  show f (f (f (p o) (p (4 * (0 + 1) + o))) (p (4 * (1 + 1) + o))) (p (4 * (2 + 1) + o)) = f (f (f (q o) (q (4 * (0 + 1) + o))) (q (4 * (1 + 1) + o))) (q (4 * (2 + 1) + o))
  rw [h _ (by omega), h _ (by omega), h _ (by omega), h _ (by omega)]
theorem kp_st16 (w2 : World) (xs : List Nat) (h : xs.length = 16) : Kp ((w2.alloc (.cells Z16 44)).setCells w2.heap.size 0 (xs.map (Value.float .f64))) w2.heap.size (xs.map (Value.float .f64)) :=
  ⟨World.rangeAt_setCells_same _ _ _ _ (thereL (there_new w2 Z16 44 16 rfl) h), by have := (below_setCells (Below.refl w2.heap.size (w2.alloc (.cells Z16 44))) (Nat.le_refl _) 0 (xs.map (Value.float .f64))).size; simp at this; omega⟩
end Go.Proofs.Ytedkbjimofiphaa

namespace Go.Proofs.Ytedkbjimofiphaa
open Go.RowKit Fl

def GR (B : Bool) (f : FuncId) (args : Array Value) (v : Value) : Prop :=
  match f with
  | 82 => ∀ (a0 a1 a2 a3 : Nat), args = #[.agg #[.float .f64 a0, .float .f64 a1, .float .f64 a2, .float .f64 a3]] → ∃ r : Nat, v = .float .f64 r ∧ RV r (loP (pl a0) (pl a2))
  | 84 => ∀ (a0 a1 a2 a3 : Nat), args = #[.agg #[.float .f64 a0, .float .f64 a1, .float .f64 a2, .float .f64 a3]] → ∃ r : Nat, v = .float .f64 r ∧ RV r (loP (pl a1) (pl a3))
  | 83 => ∀ (a0 a1 a2 a3 : Nat), args = #[.agg #[.float .f64 a0, .float .f64 a1, .float .f64 a2, .float .f64 a3]] → ∃ r : Nat, v = .float .f64 r ∧ RV r (hiP (pl a0) (pl a2))
  | 85 => ∀ (a0 a1 a2 a3 : Nat), args = #[.agg #[.float .f64 a0, .float .f64 a1, .float .f64 a2, .float .f64 a3]] → ∃ r : Nat, v = .float .f64 r ∧ RV r (hiP (pl a1) (pl a3))
  | 32 => v = .bool true
  | 11 => v = .bool true
  | 65 => v = .bool B
  | _ => True

section
variable {B : Bool}
theorem g48r {w0 w : World} {a0 a1 a2 a3 : Nat} {P0 P1 P2 P3 : Int} (h0 : RV a0 P0) (h1 : RV a1 P1) (h2 : RV a2 P2) (h3 : RV a3 P3) (hw : Below w0.heap.size w0 w) : Calls Try.prog 82 #[.agg #[.float .f64 a0, .float .f64 a1, .float .f64 a2, .float .f64 a3]] w fun e w' => ∃ v, e = .returned v ∧ GR B 82 #[.agg #[.float .f64 a0, .float .f64 a1, .float .f64 a2, .float .f64 a3]] v ∧ Below w0.heap.size w0 w' :=
  (k48 (RV.self h0.1) (RV.self h1.1) (RV.self h2.1) (RV.self h3.1) w).mono fun e w' ⟨⟨r, he, hr⟩, hb⟩ => ⟨_, he, fun ba0 ba1 ba2 ba3 hh => by cases hh; exact ⟨r, rfl, hr⟩, below_trans hw hb⟩
theorem G48r {a0 a1 a2 a3 : Nat} {P0 P1 P2 P3 : Int} {v : Value} (hv : GR B 82 #[.agg #[.float .f64 a0, .float .f64 a1, .float .f64 a2, .float .f64 a3]] v) (h0 : RV a0 P0) (h1 : RV a1 P1) (h2 : RV a2 P2) (h3 : RV a3 P3) : ∃ r : Nat, v = .float .f64 r ∧ RV r (loP P0 P2) := by
  obtain ⟨_, rfl⟩ := h0
  obtain ⟨_, rfl⟩ := h1
  obtain ⟨_, rfl⟩ := h2
  obtain ⟨_, rfl⟩ := h3
  exact hv _ _ _ _ rfl
theorem g49r {w0 w : World} {a0 a1 a2 a3 : Nat} {P0 P1 P2 P3 : Int} (h0 : RV a0 P0) (h1 : RV a1 P1) (h2 : RV a2 P2) (h3 : RV a3 P3) (hw : Below w0.heap.size w0 w) : Calls Try.prog 84 #[.agg #[.float .f64 a0, .float .f64 a1, .float .f64 a2, .float .f64 a3]] w fun e w' => ∃ v, e = .returned v ∧ GR B 84 #[.agg #[.float .f64 a0, .float .f64 a1, .float .f64 a2, .float .f64 a3]] v ∧ Below w0.heap.size w0 w' :=
  (k49 (RV.self h0.1) (RV.self h1.1) (RV.self h2.1) (RV.self h3.1) w).mono fun e w' ⟨⟨r, he, hr⟩, hb⟩ => ⟨_, he, fun ba0 ba1 ba2 ba3 hh => by cases hh; exact ⟨r, rfl, hr⟩, below_trans hw hb⟩
theorem G49r {a0 a1 a2 a3 : Nat} {P0 P1 P2 P3 : Int} {v : Value} (hv : GR B 84 #[.agg #[.float .f64 a0, .float .f64 a1, .float .f64 a2, .float .f64 a3]] v) (h0 : RV a0 P0) (h1 : RV a1 P1) (h2 : RV a2 P2) (h3 : RV a3 P3) : ∃ r : Nat, v = .float .f64 r ∧ RV r (loP P1 P3) := by
  obtain ⟨_, rfl⟩ := h0
  obtain ⟨_, rfl⟩ := h1
  obtain ⟨_, rfl⟩ := h2
  obtain ⟨_, rfl⟩ := h3
  exact hv _ _ _ _ rfl
theorem g50r {w0 w : World} {a0 a1 a2 a3 : Nat} {P0 P1 P2 P3 : Int} (h0 : RV a0 P0) (h1 : RV a1 P1) (h2 : RV a2 P2) (h3 : RV a3 P3) (hw : Below w0.heap.size w0 w) : Calls Try.prog 83 #[.agg #[.float .f64 a0, .float .f64 a1, .float .f64 a2, .float .f64 a3]] w fun e w' => ∃ v, e = .returned v ∧ GR B 83 #[.agg #[.float .f64 a0, .float .f64 a1, .float .f64 a2, .float .f64 a3]] v ∧ Below w0.heap.size w0 w' :=
  (k50 (RV.self h0.1) (RV.self h1.1) (RV.self h2.1) (RV.self h3.1) w).mono fun e w' ⟨⟨r, he, hr⟩, hb⟩ => ⟨_, he, fun ba0 ba1 ba2 ba3 hh => by cases hh; exact ⟨r, rfl, hr⟩, below_trans hw hb⟩
theorem G50r {a0 a1 a2 a3 : Nat} {P0 P1 P2 P3 : Int} {v : Value} (hv : GR B 83 #[.agg #[.float .f64 a0, .float .f64 a1, .float .f64 a2, .float .f64 a3]] v) (h0 : RV a0 P0) (h1 : RV a1 P1) (h2 : RV a2 P2) (h3 : RV a3 P3) : ∃ r : Nat, v = .float .f64 r ∧ RV r (hiP P0 P2) := by
  obtain ⟨_, rfl⟩ := h0
  obtain ⟨_, rfl⟩ := h1
  obtain ⟨_, rfl⟩ := h2
  obtain ⟨_, rfl⟩ := h3
  exact hv _ _ _ _ rfl
theorem g51r {w0 w : World} {a0 a1 a2 a3 : Nat} {P0 P1 P2 P3 : Int} (h0 : RV a0 P0) (h1 : RV a1 P1) (h2 : RV a2 P2) (h3 : RV a3 P3) (hw : Below w0.heap.size w0 w) : Calls Try.prog 85 #[.agg #[.float .f64 a0, .float .f64 a1, .float .f64 a2, .float .f64 a3]] w fun e w' => ∃ v, e = .returned v ∧ GR B 85 #[.agg #[.float .f64 a0, .float .f64 a1, .float .f64 a2, .float .f64 a3]] v ∧ Below w0.heap.size w0 w' :=
  (k51 (RV.self h0.1) (RV.self h1.1) (RV.self h2.1) (RV.self h3.1) w).mono fun e w' ⟨⟨r, he, hr⟩, hb⟩ => ⟨_, he, fun ba0 ba1 ba2 ba3 hh => by cases hh; exact ⟨r, rfl, hr⟩, below_trans hw hb⟩
theorem G51r {a0 a1 a2 a3 : Nat} {P0 P1 P2 P3 : Int} {v : Value} (hv : GR B 85 #[.agg #[.float .f64 a0, .float .f64 a1, .float .f64 a2, .float .f64 a3]] v) (h0 : RV a0 P0) (h1 : RV a1 P1) (h2 : RV a2 P2) (h3 : RV a3 P3) : ∃ r : Nat, v = .float .f64 r ∧ RV r (hiP P1 P3) := by
  obtain ⟨_, rfl⟩ := h0
  obtain ⟨_, rfl⟩ := h1
  obtain ⟨_, rfl⟩ := h2
  obtain ⟨_, rfl⟩ := h3
  exact hv _ _ _ _ rfl
theorem g32r {w0 w : World} {x y : Nat} {P : Int} (hx : RV x P) (hy : RV y P) (hw : Below w0.heap.size w0 w) : Calls Try.prog 32 #[.float .f64 x, .float .f64 y] w fun e w' => ∃ v, e = .returned v ∧ GR B 32 #[.float .f64 x, .float .f64 y] v ∧ Below w0.heap.size w0 w' :=
  (k32 hx hy w).mono fun e w' ⟨he, hb⟩ => ⟨_, he, rfl, by subst hb; exact hw⟩
end
end Go.Proofs.Ytedkbjimofiphaa

namespace Go.Proofs.Ytedkbjimofiphaa
open Go.RowKit Fl

structure Tri (wx w : World) (A B C : List Value) : Prop where
  a : Kp wx w.heap.size A
  b : Kp wx (w.heap.size + 1) B
  c : Kp wx (w.heap.size + 1 + 1) C
  o : Below w.heap.size w wx
theorem Tri.below {wx wy w : World} {A B C : List Value} (h : Tri wx w A B C) (hb : Below wx.heap.size wx wy) : Tri wy w A B C := ⟨h.a.below hb, h.b.below hb, h.c.below hb, below_trans h.o hb⟩
theorem tri_entry (w : World) (A B C : List Value) (s t u : TypeId) : Tri (((w.alloc (.cells A.toArray s)).alloc (.cells B.toArray t)).alloc (.cells C.toArray u)) w A B C := by
  have e1 : (w.alloc (.cells A.toArray s)).heap.size = w.heap.size + 1 := by simp
  have e2 : ((w.alloc (.cells A.toArray s)).alloc (.cells B.toArray t)).heap.size = w.heap.size + 1 + 1 := by simp
  have k2 := kp_new (w.alloc (.cells A.toArray s)) B t
  have k3 := kp_new ((w.alloc (.cells A.toArray s)).alloc (.cells B.toArray t)) C u
  rw [e1] at k2
  rw [e2] at k3
  exact ⟨((kp_new w A s).below (alloc_below _ _)).below (alloc_below _ _), k2.below (alloc_below _ _), k3, below_trans (below_trans (alloc_below w _) (alloc_below _ _)) (alloc_below _ _)⟩
theorem g54r {B : Bool} {w0 w : World} {a0 b0 a1 b1 a2 b2 a3 b3 : Nat} {P0 P1 P2 P3 : Int} (ha0 : RV a0 P0) (hb0 : RV b0 P0) (ha1 : RV a1 P1) (hb1 : RV b1 P1) (ha2 : RV a2 P2) (hb2 : RV b2 P2) (ha3 : RV a3 P3) (hb3 : RV b3 P3) (hw : Below w0.heap.size w0 w) :
    Calls Try.prog 11 #[.agg #[.float .f64 a0, .float .f64 a1, .float .f64 a2, .float .f64 a3], .agg #[.float .f64 b0, .float .f64 b1, .float .f64 b2, .float .f64 b3]] w fun e w' => ∃ v, e = .returned v ∧ GR B 11 #[.agg #[.float .f64 a0, .float .f64 a1, .float .f64 a2, .float .f64 a3], .agg #[.float .f64 b0, .float .f64 b1, .float .f64 b2, .float .f64 b3]] v ∧ Below w0.heap.size w0 w' :=
  (k54 ha0 hb0 ha1 hb1 ha2 hb2 ha3 hb3 w).mono fun e w' ⟨he, hb⟩ => ⟨_, he, rfl, below_trans hw hb⟩
theorem g57r {w0 w : World} {a0 a1 a2 a3 x y : Nat} {A0 A1 A2 A3 X Y : Int} (ha0 : RV a0 A0) (ha1 : RV a1 A1) (ha2 : RV a2 A2) (ha3 : RV a3 A3) (hx : RV x X) (hy : RV y Y) (hw : Below w0.heap.size w0 w) :
    Calls Try.prog 65 #[.agg #[.float .f64 a0, .float .f64 a1, .float .f64 a2, .float .f64 a3], .float .f64 x, .float .f64 y] w fun e w' => ∃ v, e = .returned v ∧ GR (hasP A0 A1 A2 A3 X Y) 65 #[.agg #[.float .f64 a0, .float .f64 a1, .float .f64 a2, .float .f64 a3], .float .f64 x, .float .f64 y] v ∧ Below w0.heap.size w0 w' :=
  (k57 ha0 ha1 ha2 ha3 hx hy w).mono fun e w' ⟨he, hb⟩ => ⟨_, he, rfl, below_trans hw hb⟩
theorem meet_places (A0 A1 A2 A3 B0 B1 B2 B3 : Int) : ∃ Q0 Q1 Q2 Q3 : Int, ∀ e, MeetR A0 A1 A2 A3 B0 B1 B2 B3 e → ∃ a b c d : Nat, e = .returned (.tuple #[.agg #[.float .f64 a, .float .f64 b, .float .f64 c, .float .f64 d], .bool (meetB A0 A1 A2 A3 B0 B1 B2 B3)]) ∧ RV a Q0 ∧ RV b Q1 ∧ RV c Q2 ∧ RV d Q3 := by
  unfold MeetR
  cases hm : meetB A0 A1 A2 A3 B0 B1 B2 B3
  · exact ⟨0, 0, 0, 0, fun e ⟨a, b, c, d, he, h⟩ => ⟨a, b, c, d, he, h⟩⟩
  · exact ⟨(maxP (loP A0 A2) (loP B0 B2)), (maxP (loP A1 A3) (loP B1 B3)), _, _, fun e ⟨a, b, c, d, he, h⟩ => ⟨a, b, c, d, he, h⟩⟩
end Go.Proofs.Ytedkbjimofiphaa

namespace Go.Proofs.Ytedkbjimofiphaa
open Go.RowKit Fl

def GK (a b : List Nat) (p0 p1 p2 : Nat) (P0 P1 P2 P3 : Int) (f : FuncId) (_ : Array Value) (v : Value) : Prop :=
  match f with
  | 34 | 12 => v = .agg (idL.map (Value.float .f64)).toArray
  | 36 | 29 => v = .agg ((moveL p0 p1 p2).map (Value.float .f64)).toArray
  | 35 | 28 => ∃ os : List Nat, v = .agg (os.map (Value.float .f64)).toArray ∧ MU os ∧ ∀ j, j < 16 → mp os j = timesP (mp a) (mp b) j
  | 64 => ∃ r0 r1 r2 r3 : Nat, v = .agg #[.float .f64 r0, .float .f64 r1, .float .f64 r2, .float .f64 r3] ∧ RV r0 (rowP (mp a) 0 P0 P1 P2 P3) ∧ RV r1 (rowP (mp a) 1 P0 P1 P2 P3) ∧ RV r2 (rowP (mp a) 2 P0 P1 P2 P3) ∧ RV r3 (rowP (mp a) 3 P0 P1 P2 P3)
  | 76 => ∃ r : Nat, v = .float .f64 r ∧ RV r (detP (mp a))
  | _ => v = .bool true
theorem idL_MU : MU idL := ⟨rfl, fun u hu => by
  have h1 : u = 0 ∨ u = 4607182418800017408 := by
    simp [idL, idK, List.range, List.range.loop] at hu
    omega
  rcases h1 with rfl | rfl <;> (unfold U; decide)⟩
theorem turn_places {c s c' s' : Nat} {C S : Int} (hc : RV c C) (hs : RV s S) (hc' : RV c' C) (hs' : RV s' S) : ∀ j, j < 16 → mp (turnL c s) j = mp (turnL c' s') j := by
  have e1 : pl c = pl c' := hc.2.trans hc'.2.symm
  have e2 : pl s = pl s' := hs.2.trans hs'.2.symm
  have e3 : pl (ng s) = pl (ng s') := by rw [pl_ng hs.1, pl_ng hs'.1, e2]
  intro j hj
  rcases (by omega : j = 0 ∨ j = 1 ∨ j = 2 ∨ j = 3 ∨ j = 4 ∨ j = 5 ∨ j = 6 ∨ j = 7 ∨ j = 8 ∨ j = 9 ∨ j = 10 ∨ j = 11 ∨ j = 12 ∨ j = 13 ∨ j = 14 ∨ j = 15) with rfl | rfl | rfl | rfl | rfl | rfl | rfl | rfl | rfl | rfl | rfl | rfl | rfl | rfl | rfl | rfl
  all_goals first | rfl | exact e1 | exact e2 | exact e3
end Go.Proofs.Ytedkbjimofiphaa
