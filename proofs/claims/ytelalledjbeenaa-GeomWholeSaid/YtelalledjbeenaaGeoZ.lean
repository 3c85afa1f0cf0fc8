/- galleyref15's pieces and Det: printed by geo20.py. -/
import Derived.Test.YtelalledjbeenaaGeoX
import Derived.Test.YtelalledjbeenaaMgGeoP
namespace Go.Proofs.Ytelalledjbeenaa
open Go.RowKit Fl

def RB.D1 (s n : Nat) : Nat → Option Nat := fun u => if u = s then some n else none
theorem RB.D1_or {s n u m : Nat} (h : RB.D1 s n u = some m) : u = s := by
  unfold RB.D1 at h
  by_cases h1 : u = s
  · exact h1
  · rw [if_neg h1] at h; cases h
section
variable {P : Program} {ops : Array Oper} {G : FuncId → Array Value → Value → Prop} {D : Nat → Option Nat} {Q : Act → Prop} {rest : List Oper} {a : Act}
variable {dst : Option Tmp} {T : TypeId} {pos : String} {af : Array Edge} {gd : Option (Nat × Bool)}
theorem RB.rel_loadF {C : World → Prop} {x : Operand} (b o r : Nat) (hx : a.eval x = .pointer (some ⟨b, o, none⟩)) (hw : Region.wanted ⟨dst, .load 24 x, T, pos, af, gd⟩ (yielded ops a.tmps) = true) (hd : dst.bind D = none)
    (hS : ∀ w, C w → w.cell? ⟨b, 0 + o, none⟩ = some (.float .f64 r)) (k : RB.wpRel Try.prog ops C G (RB.SA D) Q rest (a.put dst (.float .f64 r))) : RB.wpRel Try.prog ops C G (RB.SA D) Q (⟨dst, .load 24 x, T, pos, af, gd⟩ :: rest) a :=
  RB.rel_val hw hd (fun w hc => by
    have h := hS w hc
    rw [Nat.zero_add] at h
    unfold execOp
    simp only [hx]
    go_simp) k
end
theorem ret_rows (P : Program) {fn : Func} {p q : Tmp} {ty : TypeId} (h : fn.results = #[.cell p ty, .cell q ty]) {tmps : Array Value} {b c : Nat} (hp : tmps.getD p undef = .pointer (some ⟨b, 0, none⟩)) (hq : tmps.getD q undef = .pointer (some ⟨c, 0, none⟩)) {W : World} (cs ds : List Value) {d : TypeDesc}
    (hb : W.rangeAt b 0 cs) (hc : W.rangeAt c 0 ds) (hu : P.underlying ty = some d) (hd : d.isRow = true) (hi : (P.info? ty).map (·.size) = some cs.length) (hj : (P.info? ty).map (·.size) = some ds.length) :
    (results fn tmps).run P W = .ok (.tuple #[.agg cs.toArray, .agg ds.toArray]) W := by
  have h1 := run_loadVar_mid (P := P) _ _ 0 ty cs _ hb hu hd hi
  have h2 := run_loadVar_mid (P := P) _ _ 0 ty ds _ hc hu hd hj
  have hp' : tmps[p]?.getD undef = .pointer (some ⟨b, 0, none⟩) := by simpa using hp
  have hq' : tmps[q]?.getD undef = .pointer (some ⟨c, 0, none⟩) := by simpa using hq
  simp [results, h, hp', hq', asAddr, h1, h2]
theorem kp_setCells' {wx : World} {gv g : Nat} {V : List Value} (h : wx.rangeAt gv 0 V) (hg : gv ≠ g) (vs : List Value) : (wx.setCells g 0 vs).rangeAt gv 0 V :=
  World.rangeAt_setCells_apart h _ _ _ (.inl hg)
theorem wanted_go {c : Bool} {A B : Prop} (hc : c = true) (h : A) : if c = true then A else B := by rw [if_pos hc]; exact h
theorem drawn_setCells (w : World) (b o : Nat) (vs : List Value) : ({ w with drawn := w.drawn + 1 } : World).setCells b o vs = (w.setCells b o vs).drew := by
  show w.drew.setCells b o vs = _
  induction vs generalizing o w with
  | nil => rfl
  | cons v r ih => rw [World.setCells, World.setCells, ← ih]; rw [← World.setCell_drew]
theorem drew_all {wx w : World} {b4 b5 r1 r2 : Nat} {ds es : List Value} {X Y : Prop}
    (h : (wx.rangeAt b4 0 ds ∧ wx.rangeAt b5 0 es ∧ (wx.setCells r1 0 ds).rangeAt b5 0 es ∧ wx.there r1 0 ds.toArray.size ∧ (wx.setCells r1 0 ds).there r2 0 es.toArray.size ∧ X ∧ Y) ∧ (((wx.setCells r1 0 ds).setCells r2 0 es).rangeAt r1 0 ds ∧ ((wx.setCells r1 0 ds).setCells r2 0 es).rangeAt r2 0 es ∧ Below w.heap.size w ((wx.setCells r1 0 ds).setCells r2 0 es))) :
    ((({ wx with drawn := wx.drawn + 1 } : World).rangeAt b4 0 ds ∧ ({ wx with drawn := wx.drawn + 1 } : World).rangeAt b5 0 es ∧ (({ wx with drawn := wx.drawn + 1 } : World).setCells r1 0 ds).rangeAt b5 0 es ∧ ({ wx with drawn := wx.drawn + 1 } : World).there r1 0 ds.toArray.size ∧ (({ wx with drawn := wx.drawn + 1 } : World).setCells r1 0 ds).there r2 0 es.toArray.size ∧ X ∧ Y) ∧ ((({ wx with drawn := wx.drawn + 1 } : World).setCells r1 0 ds).setCells r2 0 es).rangeAt r1 0 ds ∧ ((({ wx with drawn := wx.drawn + 1 } : World).setCells r1 0 ds).setCells r2 0 es).rangeAt r2 0 es ∧ Below w.heap.size w ((({ wx with drawn := wx.drawn + 1 } : World).setCells r1 0 ds).setCells r2 0 es)) := by
  have e1 := drawn_setCells wx r1 0 ds
  have e2 := drawn_setCells (wx.setCells r1 0 ds) r2 0 es
  rw [e1]
  have e3 : (wx.setCells r1 0 ds).drew.setCells r2 0 es = ((wx.setCells r1 0 ds).setCells r2 0 es).drew := e2
  rw [e3]
  obtain ⟨⟨h1, h2, h3, h4, h5, hX, hY⟩, h6, h7, h8⟩ := h
  exact ⟨⟨h1, h2, h3, h4, h5, hX, hY⟩, h6, h7, ⟨h8.os, h8.tape, h8.output, h8.size, h8.block⟩⟩
structure PW (wx w : World) (A : List Value) : Prop where
  r : wx.rangeAt w.heap.size 0 A
  t1 : wx.there (w.heap.size + 1) 0 6
  t2 : wx.there (w.heap.size + 1 + 1) 0 6
  b : Below w.heap.size w wx
  l : w.heap.size + 1 + 1 < wx.heap.size
theorem PW.below {wx wy w : World} {A : List Value} (h : PW wx w A) (hb : Below wx.heap.size wx wy) : PW wy w A :=
  have hl := h.l
  have hs := hb.size
  ⟨range_below h.r hb (by omega), there_below h.t1 hb (by omega), there_below h.t2 hb (by omega), below_trans h.b hb, by omega⟩
def Z6v : Array Value := #[.float .f64 0, .float .f64 0, .float .f64 0, .float .f64 0, .float .f64 0, .float .f64 0]
theorem pw_entry (w : World) (A : List Value) : PW (((w.alloc (.cells A.toArray 80)).alloc (.cells Z6v 152)).alloc (.cells Z6v 152)) w A := by
  have e1 : (w.alloc (.cells A.toArray 80)).heap.size = w.heap.size + 1 := by simp
  have e2 : ((w.alloc (.cells A.toArray 80)).alloc (.cells Z6v 152)).heap.size = w.heap.size + 1 + 1 := by simp
  have h1 := there_new (w.alloc (.cells A.toArray 80)) Z6v 152 6 rfl
  have h2 := there_new ((w.alloc (.cells A.toArray 80)).alloc (.cells Z6v 152)) Z6v 152 6 rfl
  rw [e1] at h1
  rw [e2] at h2
  exact ⟨World.rangeAt_alloc (World.rangeAt_alloc (range_new w A 80) _) _, there_below h1 (alloc_below _ _) (by omega), h2, (((Below.refl _ _).alloc (Nat.le_refl _) _).alloc (by simp) _).alloc (by simp; omega) _, by simp⟩
theorem kp_setCells {wx : World} {gv g : Nat} {V : List Value} (h : wx.rangeAt gv 0 V) (hg : gv < g) (vs : List Value) : (wx.setCells g 0 vs).rangeAt gv 0 V :=
  range_below h (below_setCells (Below.refl g wx) (Nat.le_refl _) 0 vs) hg
theorem PW.setRow {wx w : World} {A : List Value} (h : PW wx w A) {g : Nat} (hg : w.heap.size + 1 + 1 < g) (vs : List Value) : PW (wx.setCells g 0 vs) w A :=
  have hb := below_setCells (Below.refl g wx) (Nat.le_refl _) 0 vs
  have hl := h.l
  ⟨range_below h.r hb (by omega), there_below h.t1 hb (by omega), there_below h.t2 hb (by omega), below_setCells h.b (by omega) 0 vs, by rw [size_setCells]; exact h.l⟩
set_option maxRecDepth 100000 in
set_option maxHeartbeats 8000000 in
theorem k160 {ms : List Nat} (hm : MU ms) (w : World) :
    Calls Try.prog 160 #[.agg (ms.map (Value.float .f64)).toArray] w fun e w' => (∃ ds es : List Nat, e = .returned (.tuple #[.agg (ds.map (Value.float .f64)).toArray, .agg (es.map (Value.float .f64)).toArray]) ∧ MinS (minors0 (mp ms)) ds 6 ∧ MinS (minors8 (mp ms)) es 6) ∧ Below w.heap.size w w' := by
  obtain ⟨m0, c0, r0⟩ := hm.get (j := 0) (by decide)
  have C0 := Lib.hid (map_get c0)
  have R0 := Lib.hid r0
  obtain ⟨m1, c1, r1⟩ := hm.get (j := 1) (by decide)
  have C1 := Lib.hid (map_get c1)
  have R1 := Lib.hid r1
  obtain ⟨m2, c2, r2⟩ := hm.get (j := 2) (by decide)
  have C2 := Lib.hid (map_get c2)
  have R2 := Lib.hid r2
  obtain ⟨m3, c3, r3⟩ := hm.get (j := 3) (by decide)
  have C3 := Lib.hid (map_get c3)
  have R3 := Lib.hid r3
  obtain ⟨m4, c4, r4⟩ := hm.get (j := 4) (by decide)
  have C4 := Lib.hid (map_get c4)
  have R4 := Lib.hid r4
  obtain ⟨m5, c5, r5⟩ := hm.get (j := 5) (by decide)
  have C5 := Lib.hid (map_get c5)
  have R5 := Lib.hid r5
  obtain ⟨m6, c6, r6⟩ := hm.get (j := 6) (by decide)
  have C6 := Lib.hid (map_get c6)
  have R6 := Lib.hid r6
  obtain ⟨m7, c7, r7⟩ := hm.get (j := 7) (by decide)
  have C7 := Lib.hid (map_get c7)
  have R7 := Lib.hid r7
  obtain ⟨m8, c8, r8⟩ := hm.get (j := 8) (by decide)
  have C8 := Lib.hid (map_get c8)
  have R8 := Lib.hid r8
  obtain ⟨m9, c9, r9⟩ := hm.get (j := 9) (by decide)
  have C9 := Lib.hid (map_get c9)
  have R9 := Lib.hid r9
  obtain ⟨m10, c10, r10⟩ := hm.get (j := 10) (by decide)
  have C10 := Lib.hid (map_get c10)
  have R10 := Lib.hid r10
  obtain ⟨m11, c11, r11⟩ := hm.get (j := 11) (by decide)
  have C11 := Lib.hid (map_get c11)
  have R11 := Lib.hid r11
  obtain ⟨m12, c12, r12⟩ := hm.get (j := 12) (by decide)
  have C12 := Lib.hid (map_get c12)
  have R12 := Lib.hid r12
  obtain ⟨m13, c13, r13⟩ := hm.get (j := 13) (by decide)
  have C13 := Lib.hid (map_get c13)
  have R13 := Lib.hid r13
  obtain ⟨m14, c14, r14⟩ := hm.get (j := 14) (by decide)
  have C14 := Lib.hid (map_get c14)
  have R14 := Lib.hid r14
  obtain ⟨m15, c15, r15⟩ := hm.get (j := 15) (by decide)
  have C15 := Lib.hid (map_get c15)
  have R15 := Lib.hid r15
  clear c0 r0 c1 r1 c2 r2 c3 r3 c4 r4 c5 r5 c6 r6 c7 r7 c8 r8 c9 r9 c10 r10 c11 r11 c12 r12 c13 r13 c14 r14 c15 r15 hm
  have P0 := Lib.hid (pw_entry w (ms.map (Value.float .f64)))
  go_enter Try.func160, Try.ntmps160
  go_wp2_with fail
  refine wp_gen (fun wx => Hid (PW wx w (ms.map (Value.float .f64)))) P0 ?_
  intro wc hW
  clear P0
  have ra : ∀ w', Below wc.heap.size wc w' → w'.rangeAt w.heap.size 0 (ms.map (Value.float .f64)) := fun w' hw => (hW.out.below hw).r
  refine RB.wp_region_alloc 56 (RB.D1 4 6) GEM (by kernel_rfl) (by kernel_rfl) (fun t n h => by rcases RB.D1_or h with rfl; rfl) ?_
  simp only [List.take_succ_cons, List.take_zero, List.drop_succ_cons, List.drop_zero]
  refine RB.rel_val (v := .pointer (some ⟨w.heap.size, 0, none⟩)) rfl rfl (fun w' hw => by go_simp) ?_
  simp only [Act.put, List.setIfInBounds_toArray, List.set_cons_succ, List.set_cons_zero]
  refine RB.rel_loadF (w.heap.size) (0) m0 rfl rfl rfl (fun w' hw => ra w' hw (0) _ C0.out) ?_
  simp only [Act.put, List.setIfInBounds_toArray, List.set_cons_succ, List.set_cons_zero]
  refine RB.rel_val (v := .pointer (some ⟨w.heap.size, 5, none⟩)) rfl rfl (fun w' hw => by go_simp) ?_
  simp only [Act.put, List.setIfInBounds_toArray, List.set_cons_succ, List.set_cons_zero]
  refine RB.rel_loadF (w.heap.size) (5) m5 rfl rfl rfl (fun w' hw => ra w' hw (5) _ C5.out) ?_
  simp only [Act.put, List.setIfInBounds_toArray, List.set_cons_succ, List.set_cons_zero]
  refine RB.rel_val (v := .pointer (some ⟨w.heap.size, 1, none⟩)) rfl rfl (fun w' hw => by go_simp) ?_
  simp only [Act.put, List.setIfInBounds_toArray, List.set_cons_succ, List.set_cons_zero]
  refine RB.rel_loadF (w.heap.size) (1) m1 rfl rfl rfl (fun w' hw => ra w' hw (1) _ C1.out) ?_
  simp only [Act.put, List.setIfInBounds_toArray, List.set_cons_succ, List.set_cons_zero]
  refine RB.rel_val (v := .pointer (some ⟨w.heap.size, 4, none⟩)) rfl rfl (fun w' hw => by go_simp) ?_
  simp only [Act.put, List.setIfInBounds_toArray, List.set_cons_succ, List.set_cons_zero]
  refine RB.rel_loadF (w.heap.size) (4) m4 rfl rfl rfl (fun w' hw => ra w' hw (4) _ C4.out) ?_
  simp only [Act.put, List.setIfInBounds_toArray, List.set_cons_succ, List.set_cons_zero]
  refine RB.rel_call (f := 184) (args := #[.float .f64 m0, .float .f64 m5, .float .f64 m1, .float .f64 m4]) rfl rfl (fun w' hw => by go_simp) (fun w' hw => g184 R0.out R5.out R1.out R4.out (Below.refl _ _)) (fun v hv => ?_)
  obtain ⟨d1, rfl, hd1⟩ := G184 hv R0.out R5.out R1.out R4.out
  simp only [Act.put, List.setIfInBounds_toArray, List.set_cons_succ, List.set_cons_zero]
  refine RB.rel_val (v := .pointer (some ⟨w.heap.size, 0, none⟩)) rfl rfl (fun w' hw => by go_simp) ?_
  simp only [Act.put, List.setIfInBounds_toArray, List.set_cons_succ, List.set_cons_zero]
  refine RB.rel_loadF (w.heap.size) (0) m0 rfl rfl rfl (fun w' hw => ra w' hw (0) _ C0.out) ?_
  simp only [Act.put, List.setIfInBounds_toArray, List.set_cons_succ, List.set_cons_zero]
  refine RB.rel_val (v := .pointer (some ⟨w.heap.size, 6, none⟩)) rfl rfl (fun w' hw => by go_simp) ?_
  simp only [Act.put, List.setIfInBounds_toArray, List.set_cons_succ, List.set_cons_zero]
  refine RB.rel_loadF (w.heap.size) (6) m6 rfl rfl rfl (fun w' hw => ra w' hw (6) _ C6.out) ?_
  simp only [Act.put, List.setIfInBounds_toArray, List.set_cons_succ, List.set_cons_zero]
  refine RB.rel_val (v := .pointer (some ⟨w.heap.size, 2, none⟩)) rfl rfl (fun w' hw => by go_simp) ?_
  simp only [Act.put, List.setIfInBounds_toArray, List.set_cons_succ, List.set_cons_zero]
  refine RB.rel_loadF (w.heap.size) (2) m2 rfl rfl rfl (fun w' hw => ra w' hw (2) _ C2.out) ?_
  simp only [Act.put, List.setIfInBounds_toArray, List.set_cons_succ, List.set_cons_zero]
  refine RB.rel_val (v := .pointer (some ⟨w.heap.size, 4, none⟩)) rfl rfl (fun w' hw => by go_simp) ?_
  simp only [Act.put, List.setIfInBounds_toArray, List.set_cons_succ, List.set_cons_zero]
  refine RB.rel_loadF (w.heap.size) (4) m4 rfl rfl rfl (fun w' hw => ra w' hw (4) _ C4.out) ?_
  simp only [Act.put, List.setIfInBounds_toArray, List.set_cons_succ, List.set_cons_zero]
  refine RB.rel_call (f := 184) (args := #[.float .f64 m0, .float .f64 m6, .float .f64 m2, .float .f64 m4]) rfl rfl (fun w' hw => by go_simp) (fun w' hw => g184 R0.out R6.out R2.out R4.out (Below.refl _ _)) (fun v hv => ?_)
  obtain ⟨d2, rfl, hd2⟩ := G184 hv R0.out R6.out R2.out R4.out
  simp only [Act.put, List.setIfInBounds_toArray, List.set_cons_succ, List.set_cons_zero]
  refine RB.rel_val (v := .pointer (some ⟨w.heap.size, 0, none⟩)) rfl rfl (fun w' hw => by go_simp) ?_
  simp only [Act.put, List.setIfInBounds_toArray, List.set_cons_succ, List.set_cons_zero]
  refine RB.rel_loadF (w.heap.size) (0) m0 rfl rfl rfl (fun w' hw => ra w' hw (0) _ C0.out) ?_
  simp only [Act.put, List.setIfInBounds_toArray, List.set_cons_succ, List.set_cons_zero]
  refine RB.rel_val (v := .pointer (some ⟨w.heap.size, 7, none⟩)) rfl rfl (fun w' hw => by go_simp) ?_
  simp only [Act.put, List.setIfInBounds_toArray, List.set_cons_succ, List.set_cons_zero]
  refine RB.rel_loadF (w.heap.size) (7) m7 rfl rfl rfl (fun w' hw => ra w' hw (7) _ C7.out) ?_
  simp only [Act.put, List.setIfInBounds_toArray, List.set_cons_succ, List.set_cons_zero]
  refine RB.rel_val (v := .pointer (some ⟨w.heap.size, 3, none⟩)) rfl rfl (fun w' hw => by go_simp) ?_
  simp only [Act.put, List.setIfInBounds_toArray, List.set_cons_succ, List.set_cons_zero]
  refine RB.rel_loadF (w.heap.size) (3) m3 rfl rfl rfl (fun w' hw => ra w' hw (3) _ C3.out) ?_
  simp only [Act.put, List.setIfInBounds_toArray, List.set_cons_succ, List.set_cons_zero]
  refine RB.rel_val (v := .pointer (some ⟨w.heap.size, 4, none⟩)) rfl rfl (fun w' hw => by go_simp) ?_
  simp only [Act.put, List.setIfInBounds_toArray, List.set_cons_succ, List.set_cons_zero]
  refine RB.rel_loadF (w.heap.size) (4) m4 rfl rfl rfl (fun w' hw => ra w' hw (4) _ C4.out) ?_
  simp only [Act.put, List.setIfInBounds_toArray, List.set_cons_succ, List.set_cons_zero]
  refine RB.rel_call (f := 184) (args := #[.float .f64 m0, .float .f64 m7, .float .f64 m3, .float .f64 m4]) rfl rfl (fun w' hw => by go_simp) (fun w' hw => g184 R0.out R7.out R3.out R4.out (Below.refl _ _)) (fun v hv => ?_)
  obtain ⟨d3, rfl, hd3⟩ := G184 hv R0.out R7.out R3.out R4.out
  simp only [Act.put, List.setIfInBounds_toArray, List.set_cons_succ, List.set_cons_zero]
  refine RB.rel_val (v := .pointer (some ⟨w.heap.size, 1, none⟩)) rfl rfl (fun w' hw => by go_simp) ?_
  simp only [Act.put, List.setIfInBounds_toArray, List.set_cons_succ, List.set_cons_zero]
  refine RB.rel_loadF (w.heap.size) (1) m1 rfl rfl rfl (fun w' hw => ra w' hw (1) _ C1.out) ?_
  simp only [Act.put, List.setIfInBounds_toArray, List.set_cons_succ, List.set_cons_zero]
  refine RB.rel_val (v := .pointer (some ⟨w.heap.size, 6, none⟩)) rfl rfl (fun w' hw => by go_simp) ?_
  simp only [Act.put, List.setIfInBounds_toArray, List.set_cons_succ, List.set_cons_zero]
  refine RB.rel_loadF (w.heap.size) (6) m6 rfl rfl rfl (fun w' hw => ra w' hw (6) _ C6.out) ?_
  simp only [Act.put, List.setIfInBounds_toArray, List.set_cons_succ, List.set_cons_zero]
  refine RB.rel_val (v := .pointer (some ⟨w.heap.size, 2, none⟩)) rfl rfl (fun w' hw => by go_simp) ?_
  simp only [Act.put, List.setIfInBounds_toArray, List.set_cons_succ, List.set_cons_zero]
  refine RB.rel_loadF (w.heap.size) (2) m2 rfl rfl rfl (fun w' hw => ra w' hw (2) _ C2.out) ?_
  simp only [Act.put, List.setIfInBounds_toArray, List.set_cons_succ, List.set_cons_zero]
  refine RB.rel_val (v := .pointer (some ⟨w.heap.size, 5, none⟩)) rfl rfl (fun w' hw => by go_simp) ?_
  simp only [Act.put, List.setIfInBounds_toArray, List.set_cons_succ, List.set_cons_zero]
  refine RB.rel_loadF (w.heap.size) (5) m5 rfl rfl rfl (fun w' hw => ra w' hw (5) _ C5.out) ?_
  simp only [Act.put, List.setIfInBounds_toArray, List.set_cons_succ, List.set_cons_zero]
  refine RB.rel_call (f := 184) (args := #[.float .f64 m1, .float .f64 m6, .float .f64 m2, .float .f64 m5]) rfl rfl (fun w' hw => by go_simp) (fun w' hw => g184 R1.out R6.out R2.out R5.out (Below.refl _ _)) (fun v hv => ?_)
  obtain ⟨d4, rfl, hd4⟩ := G184 hv R1.out R6.out R2.out R5.out
  simp only [Act.put, List.setIfInBounds_toArray, List.set_cons_succ, List.set_cons_zero]
  refine RB.rel_val (v := .pointer (some ⟨w.heap.size, 1, none⟩)) rfl rfl (fun w' hw => by go_simp) ?_
  simp only [Act.put, List.setIfInBounds_toArray, List.set_cons_succ, List.set_cons_zero]
  refine RB.rel_loadF (w.heap.size) (1) m1 rfl rfl rfl (fun w' hw => ra w' hw (1) _ C1.out) ?_
  simp only [Act.put, List.setIfInBounds_toArray, List.set_cons_succ, List.set_cons_zero]
  refine RB.rel_val (v := .pointer (some ⟨w.heap.size, 7, none⟩)) rfl rfl (fun w' hw => by go_simp) ?_
  simp only [Act.put, List.setIfInBounds_toArray, List.set_cons_succ, List.set_cons_zero]
  refine RB.rel_loadF (w.heap.size) (7) m7 rfl rfl rfl (fun w' hw => ra w' hw (7) _ C7.out) ?_
  simp only [Act.put, List.setIfInBounds_toArray, List.set_cons_succ, List.set_cons_zero]
  refine RB.rel_val (v := .pointer (some ⟨w.heap.size, 3, none⟩)) rfl rfl (fun w' hw => by go_simp) ?_
  simp only [Act.put, List.setIfInBounds_toArray, List.set_cons_succ, List.set_cons_zero]
  refine RB.rel_loadF (w.heap.size) (3) m3 rfl rfl rfl (fun w' hw => ra w' hw (3) _ C3.out) ?_
  simp only [Act.put, List.setIfInBounds_toArray, List.set_cons_succ, List.set_cons_zero]
  refine RB.rel_val (v := .pointer (some ⟨w.heap.size, 5, none⟩)) rfl rfl (fun w' hw => by go_simp) ?_
  simp only [Act.put, List.setIfInBounds_toArray, List.set_cons_succ, List.set_cons_zero]
  refine RB.rel_loadF (w.heap.size) (5) m5 rfl rfl rfl (fun w' hw => ra w' hw (5) _ C5.out) ?_
  simp only [Act.put, List.setIfInBounds_toArray, List.set_cons_succ, List.set_cons_zero]
  refine RB.rel_call (f := 184) (args := #[.float .f64 m1, .float .f64 m7, .float .f64 m3, .float .f64 m5]) rfl rfl (fun w' hw => by go_simp) (fun w' hw => g184 R1.out R7.out R3.out R5.out (Below.refl _ _)) (fun v hv => ?_)
  obtain ⟨d5, rfl, hd5⟩ := G184 hv R1.out R7.out R3.out R5.out
  simp only [Act.put, List.setIfInBounds_toArray, List.set_cons_succ, List.set_cons_zero]
  refine RB.rel_val (v := .pointer (some ⟨w.heap.size, 2, none⟩)) rfl rfl (fun w' hw => by go_simp) ?_
  simp only [Act.put, List.setIfInBounds_toArray, List.set_cons_succ, List.set_cons_zero]
  refine RB.rel_loadF (w.heap.size) (2) m2 rfl rfl rfl (fun w' hw => ra w' hw (2) _ C2.out) ?_
  simp only [Act.put, List.setIfInBounds_toArray, List.set_cons_succ, List.set_cons_zero]
  refine RB.rel_val (v := .pointer (some ⟨w.heap.size, 7, none⟩)) rfl rfl (fun w' hw => by go_simp) ?_
  simp only [Act.put, List.setIfInBounds_toArray, List.set_cons_succ, List.set_cons_zero]
  refine RB.rel_loadF (w.heap.size) (7) m7 rfl rfl rfl (fun w' hw => ra w' hw (7) _ C7.out) ?_
  simp only [Act.put, List.setIfInBounds_toArray, List.set_cons_succ, List.set_cons_zero]
  refine RB.rel_val (v := .pointer (some ⟨w.heap.size, 3, none⟩)) rfl rfl (fun w' hw => by go_simp) ?_
  simp only [Act.put, List.setIfInBounds_toArray, List.set_cons_succ, List.set_cons_zero]
  refine RB.rel_loadF (w.heap.size) (3) m3 rfl rfl rfl (fun w' hw => ra w' hw (3) _ C3.out) ?_
  simp only [Act.put, List.setIfInBounds_toArray, List.set_cons_succ, List.set_cons_zero]
  refine RB.rel_val (v := .pointer (some ⟨w.heap.size, 6, none⟩)) rfl rfl (fun w' hw => by go_simp) ?_
  simp only [Act.put, List.setIfInBounds_toArray, List.set_cons_succ, List.set_cons_zero]
  refine RB.rel_loadF (w.heap.size) (6) m6 rfl rfl rfl (fun w' hw => ra w' hw (6) _ C6.out) ?_
  simp only [Act.put, List.setIfInBounds_toArray, List.set_cons_succ, List.set_cons_zero]
  refine RB.rel_call (f := 184) (args := #[.float .f64 m2, .float .f64 m7, .float .f64 m3, .float .f64 m6]) rfl rfl (fun w' hw => by go_simp) (fun w' hw => g184 R2.out R7.out R3.out R6.out (Below.refl _ _)) (fun v hv => ?_)
  obtain ⟨d6, rfl, hd6⟩ := G184 hv R2.out R7.out R3.out R6.out
  simp only [Act.put, List.setIfInBounds_toArray, List.set_cons_succ, List.set_cons_zero]
  refine RB.rel_val (v := .agg #[.float .f64 d1, .float .f64 d2, .float .f64 d3, .float .f64 d4, .float .f64 d5, .float .f64 d6]) rfl rfl (fun w' hw => by go_simp) ?_
  simp only [Act.put, List.setIfInBounds_toArray, List.set_cons_succ, List.set_cons_zero]
  refine RB.rel_alloc 6 #[.float .f64 0, .float .f64 0, .float .f64 0, .float .f64 0, .float .f64 0, .float .f64 0] rfl rfl rfl (fun w' => by go_simp) (fun b4 => ?_)
  simp only [Act.put, List.setIfInBounds_toArray, List.set_cons_succ, List.set_cons_zero]
  refine RB.rel_nil ?_
  intro w3 hB3 hI
  have hx := hI.at (t := 4) (b := b4) rfl rfl
  have Hd := Lib.hid (show MinS (minors0 (mp ms)) [d1, d2, d3, d4, d5, d6] 6 from ⟨rfl, fun j hj => by
    rcases (by omega : j = 0 ∨ j = 1 ∨ j = 2 ∨ j = 3 ∨ j = 4 ∨ j = 5) with rfl | rfl | rfl | rfl | rfl | rfl
    · exact hd1
    · exact hd2
    · exact hd3
    · exact hd4
    · exact hd5
    · exact hd6⟩)
  have W3 := Lib.hid (hW.out.below hB3)
  have hb4 : w.heap.size + 1 + 1 < b4 := by have := hx.1; have := hW.out.l; omega
  have HB4 := Lib.hid hb4
  have T4 := Lib.hid (show w3.there b4 0 ([d1, d2, d3, d4, d5, d6].map (Value.float .f64)).toArray.size from hx.2.2)
  have E4 := Lib.hid (size152A [d1, d2, d3, d4, d5, d6] rfl)
  have WF := Lib.hid (And.intro (W3.out.setRow hb4 ([d1, d2, d3, d4, d5, d6].map (Value.float .f64))) (And.intro (World.rangeAt_setCells_same w3 b4 0 ([d1, d2, d3, d4, d5, d6].map (Value.float .f64)) hx.2.2) (show b4 < (w3.setCells b4 0 ([d1, d2, d3, d4, d5, d6].map (Value.float .f64))).heap.size by rw [size_setCells]; exact hx.2.1)))
  clear hx hB3 hI hW ra hb4 hd1 hd2 hd3 hd4 hd5 hd6
  go_upto_region 2 with (refine wpList_store_mid rfl 152 (.tmp 4) (.tmp 60) rfl b4 0 ([d1, d2, d3, d4, d5, d6].map (Value.float .f64)).toArray rfl rfl T4.out E4.out (one16 [d1, d2, d3, d4, d5, d6]) ?_)
  refine wp_gen (fun wx => Hid (PW wx w (ms.map (Value.float .f64)) ∧ wx.rangeAt b4 0 ([d1, d2, d3, d4, d5, d6].map (Value.float .f64)) ∧ b4 < wx.heap.size)) WF ?_
  intro wd hW
  clear WF T4 E4 W3
  generalize [d1, d2, d3, d4, d5, d6] = ds at *
  have ra : ∀ w', Below wd.heap.size wd w' → w'.rangeAt w.heap.size 0 (ms.map (Value.float .f64)) := fun w' hw => (hW.out.1.below hw).r
  refine RB.wp_region_alloc 56 (RB.D1 5 6) GEM (by kernel_rfl) (by kernel_rfl) (fun t n h => by rcases RB.D1_or h with rfl; rfl) ?_
  simp only [List.take_succ_cons, List.take_zero, List.drop_succ_cons, List.drop_zero]
  refine RB.rel_val (v := .pointer (some ⟨w.heap.size, 8, none⟩)) rfl rfl (fun w' hw => by go_simp) ?_
  simp only [Act.put, List.setIfInBounds_toArray, List.set_cons_succ, List.set_cons_zero]
  refine RB.rel_loadF (w.heap.size) (8) m8 rfl rfl rfl (fun w' hw => ra w' hw (8) _ C8.out) ?_
  simp only [Act.put, List.setIfInBounds_toArray, List.set_cons_succ, List.set_cons_zero]
  refine RB.rel_val (v := .pointer (some ⟨w.heap.size, 13, none⟩)) rfl rfl (fun w' hw => by go_simp) ?_
  simp only [Act.put, List.setIfInBounds_toArray, List.set_cons_succ, List.set_cons_zero]
  refine RB.rel_loadF (w.heap.size) (13) m13 rfl rfl rfl (fun w' hw => ra w' hw (13) _ C13.out) ?_
  simp only [Act.put, List.setIfInBounds_toArray, List.set_cons_succ, List.set_cons_zero]
  refine RB.rel_val (v := .pointer (some ⟨w.heap.size, 9, none⟩)) rfl rfl (fun w' hw => by go_simp) ?_
  simp only [Act.put, List.setIfInBounds_toArray, List.set_cons_succ, List.set_cons_zero]
  refine RB.rel_loadF (w.heap.size) (9) m9 rfl rfl rfl (fun w' hw => ra w' hw (9) _ C9.out) ?_
  simp only [Act.put, List.setIfInBounds_toArray, List.set_cons_succ, List.set_cons_zero]
  refine RB.rel_val (v := .pointer (some ⟨w.heap.size, 12, none⟩)) rfl rfl (fun w' hw => by go_simp) ?_
  simp only [Act.put, List.setIfInBounds_toArray, List.set_cons_succ, List.set_cons_zero]
  refine RB.rel_loadF (w.heap.size) (12) m12 rfl rfl rfl (fun w' hw => ra w' hw (12) _ C12.out) ?_
  simp only [Act.put, List.setIfInBounds_toArray, List.set_cons_succ, List.set_cons_zero]
  refine RB.rel_call (f := 184) (args := #[.float .f64 m8, .float .f64 m13, .float .f64 m9, .float .f64 m12]) rfl rfl (fun w' hw => by go_simp) (fun w' hw => g184 R8.out R13.out R9.out R12.out (Below.refl _ _)) (fun v hv => ?_)
  obtain ⟨e1, rfl, he1⟩ := G184 hv R8.out R13.out R9.out R12.out
  simp only [Act.put, List.setIfInBounds_toArray, List.set_cons_succ, List.set_cons_zero]
  refine RB.rel_val (v := .pointer (some ⟨w.heap.size, 8, none⟩)) rfl rfl (fun w' hw => by go_simp) ?_
  simp only [Act.put, List.setIfInBounds_toArray, List.set_cons_succ, List.set_cons_zero]
  refine RB.rel_loadF (w.heap.size) (8) m8 rfl rfl rfl (fun w' hw => ra w' hw (8) _ C8.out) ?_
  simp only [Act.put, List.setIfInBounds_toArray, List.set_cons_succ, List.set_cons_zero]
  refine RB.rel_val (v := .pointer (some ⟨w.heap.size, 14, none⟩)) rfl rfl (fun w' hw => by go_simp) ?_
  simp only [Act.put, List.setIfInBounds_toArray, List.set_cons_succ, List.set_cons_zero]
  refine RB.rel_loadF (w.heap.size) (14) m14 rfl rfl rfl (fun w' hw => ra w' hw (14) _ C14.out) ?_
  simp only [Act.put, List.setIfInBounds_toArray, List.set_cons_succ, List.set_cons_zero]
  refine RB.rel_val (v := .pointer (some ⟨w.heap.size, 10, none⟩)) rfl rfl (fun w' hw => by go_simp) ?_
  simp only [Act.put, List.setIfInBounds_toArray, List.set_cons_succ, List.set_cons_zero]
  refine RB.rel_loadF (w.heap.size) (10) m10 rfl rfl rfl (fun w' hw => ra w' hw (10) _ C10.out) ?_
  simp only [Act.put, List.setIfInBounds_toArray, List.set_cons_succ, List.set_cons_zero]
  refine RB.rel_val (v := .pointer (some ⟨w.heap.size, 12, none⟩)) rfl rfl (fun w' hw => by go_simp) ?_
  simp only [Act.put, List.setIfInBounds_toArray, List.set_cons_succ, List.set_cons_zero]
  refine RB.rel_loadF (w.heap.size) (12) m12 rfl rfl rfl (fun w' hw => ra w' hw (12) _ C12.out) ?_
  simp only [Act.put, List.setIfInBounds_toArray, List.set_cons_succ, List.set_cons_zero]
  refine RB.rel_call (f := 184) (args := #[.float .f64 m8, .float .f64 m14, .float .f64 m10, .float .f64 m12]) rfl rfl (fun w' hw => by go_simp) (fun w' hw => g184 R8.out R14.out R10.out R12.out (Below.refl _ _)) (fun v hv => ?_)
  obtain ⟨e2, rfl, he2⟩ := G184 hv R8.out R14.out R10.out R12.out
  simp only [Act.put, List.setIfInBounds_toArray, List.set_cons_succ, List.set_cons_zero]
  refine RB.rel_val (v := .pointer (some ⟨w.heap.size, 8, none⟩)) rfl rfl (fun w' hw => by go_simp) ?_
  simp only [Act.put, List.setIfInBounds_toArray, List.set_cons_succ, List.set_cons_zero]
  refine RB.rel_loadF (w.heap.size) (8) m8 rfl rfl rfl (fun w' hw => ra w' hw (8) _ C8.out) ?_
  simp only [Act.put, List.setIfInBounds_toArray, List.set_cons_succ, List.set_cons_zero]
  refine RB.rel_val (v := .pointer (some ⟨w.heap.size, 15, none⟩)) rfl rfl (fun w' hw => by go_simp) ?_
  simp only [Act.put, List.setIfInBounds_toArray, List.set_cons_succ, List.set_cons_zero]
  refine RB.rel_loadF (w.heap.size) (15) m15 rfl rfl rfl (fun w' hw => ra w' hw (15) _ C15.out) ?_
  simp only [Act.put, List.setIfInBounds_toArray, List.set_cons_succ, List.set_cons_zero]
  refine RB.rel_val (v := .pointer (some ⟨w.heap.size, 11, none⟩)) rfl rfl (fun w' hw => by go_simp) ?_
  simp only [Act.put, List.setIfInBounds_toArray, List.set_cons_succ, List.set_cons_zero]
  refine RB.rel_loadF (w.heap.size) (11) m11 rfl rfl rfl (fun w' hw => ra w' hw (11) _ C11.out) ?_
  simp only [Act.put, List.setIfInBounds_toArray, List.set_cons_succ, List.set_cons_zero]
  refine RB.rel_val (v := .pointer (some ⟨w.heap.size, 12, none⟩)) rfl rfl (fun w' hw => by go_simp) ?_
  simp only [Act.put, List.setIfInBounds_toArray, List.set_cons_succ, List.set_cons_zero]
  refine RB.rel_loadF (w.heap.size) (12) m12 rfl rfl rfl (fun w' hw => ra w' hw (12) _ C12.out) ?_
  simp only [Act.put, List.setIfInBounds_toArray, List.set_cons_succ, List.set_cons_zero]
  refine RB.rel_call (f := 184) (args := #[.float .f64 m8, .float .f64 m15, .float .f64 m11, .float .f64 m12]) rfl rfl (fun w' hw => by go_simp) (fun w' hw => g184 R8.out R15.out R11.out R12.out (Below.refl _ _)) (fun v hv => ?_)
  obtain ⟨e3, rfl, he3⟩ := G184 hv R8.out R15.out R11.out R12.out
  simp only [Act.put, List.setIfInBounds_toArray, List.set_cons_succ, List.set_cons_zero]
  refine RB.rel_val (v := .pointer (some ⟨w.heap.size, 9, none⟩)) rfl rfl (fun w' hw => by go_simp) ?_
  simp only [Act.put, List.setIfInBounds_toArray, List.set_cons_succ, List.set_cons_zero]
  refine RB.rel_loadF (w.heap.size) (9) m9 rfl rfl rfl (fun w' hw => ra w' hw (9) _ C9.out) ?_
  simp only [Act.put, List.setIfInBounds_toArray, List.set_cons_succ, List.set_cons_zero]
  refine RB.rel_val (v := .pointer (some ⟨w.heap.size, 14, none⟩)) rfl rfl (fun w' hw => by go_simp) ?_
  simp only [Act.put, List.setIfInBounds_toArray, List.set_cons_succ, List.set_cons_zero]
  refine RB.rel_loadF (w.heap.size) (14) m14 rfl rfl rfl (fun w' hw => ra w' hw (14) _ C14.out) ?_
  simp only [Act.put, List.setIfInBounds_toArray, List.set_cons_succ, List.set_cons_zero]
  refine RB.rel_val (v := .pointer (some ⟨w.heap.size, 10, none⟩)) rfl rfl (fun w' hw => by go_simp) ?_
  simp only [Act.put, List.setIfInBounds_toArray, List.set_cons_succ, List.set_cons_zero]
  refine RB.rel_loadF (w.heap.size) (10) m10 rfl rfl rfl (fun w' hw => ra w' hw (10) _ C10.out) ?_
  simp only [Act.put, List.setIfInBounds_toArray, List.set_cons_succ, List.set_cons_zero]
  refine RB.rel_val (v := .pointer (some ⟨w.heap.size, 13, none⟩)) rfl rfl (fun w' hw => by go_simp) ?_
  simp only [Act.put, List.setIfInBounds_toArray, List.set_cons_succ, List.set_cons_zero]
  refine RB.rel_loadF (w.heap.size) (13) m13 rfl rfl rfl (fun w' hw => ra w' hw (13) _ C13.out) ?_
  simp only [Act.put, List.setIfInBounds_toArray, List.set_cons_succ, List.set_cons_zero]
  refine RB.rel_call (f := 184) (args := #[.float .f64 m9, .float .f64 m14, .float .f64 m10, .float .f64 m13]) rfl rfl (fun w' hw => by go_simp) (fun w' hw => g184 R9.out R14.out R10.out R13.out (Below.refl _ _)) (fun v hv => ?_)
  obtain ⟨e4, rfl, he4⟩ := G184 hv R9.out R14.out R10.out R13.out
  simp only [Act.put, List.setIfInBounds_toArray, List.set_cons_succ, List.set_cons_zero]
  refine RB.rel_val (v := .pointer (some ⟨w.heap.size, 9, none⟩)) rfl rfl (fun w' hw => by go_simp) ?_
  simp only [Act.put, List.setIfInBounds_toArray, List.set_cons_succ, List.set_cons_zero]
  refine RB.rel_loadF (w.heap.size) (9) m9 rfl rfl rfl (fun w' hw => ra w' hw (9) _ C9.out) ?_
  simp only [Act.put, List.setIfInBounds_toArray, List.set_cons_succ, List.set_cons_zero]
  refine RB.rel_val (v := .pointer (some ⟨w.heap.size, 15, none⟩)) rfl rfl (fun w' hw => by go_simp) ?_
  simp only [Act.put, List.setIfInBounds_toArray, List.set_cons_succ, List.set_cons_zero]
  refine RB.rel_loadF (w.heap.size) (15) m15 rfl rfl rfl (fun w' hw => ra w' hw (15) _ C15.out) ?_
  simp only [Act.put, List.setIfInBounds_toArray, List.set_cons_succ, List.set_cons_zero]
  refine RB.rel_val (v := .pointer (some ⟨w.heap.size, 11, none⟩)) rfl rfl (fun w' hw => by go_simp) ?_
  simp only [Act.put, List.setIfInBounds_toArray, List.set_cons_succ, List.set_cons_zero]
  refine RB.rel_loadF (w.heap.size) (11) m11 rfl rfl rfl (fun w' hw => ra w' hw (11) _ C11.out) ?_
  simp only [Act.put, List.setIfInBounds_toArray, List.set_cons_succ, List.set_cons_zero]
  refine RB.rel_val (v := .pointer (some ⟨w.heap.size, 13, none⟩)) rfl rfl (fun w' hw => by go_simp) ?_
  simp only [Act.put, List.setIfInBounds_toArray, List.set_cons_succ, List.set_cons_zero]
  refine RB.rel_loadF (w.heap.size) (13) m13 rfl rfl rfl (fun w' hw => ra w' hw (13) _ C13.out) ?_
  simp only [Act.put, List.setIfInBounds_toArray, List.set_cons_succ, List.set_cons_zero]
  refine RB.rel_call (f := 184) (args := #[.float .f64 m9, .float .f64 m15, .float .f64 m11, .float .f64 m13]) rfl rfl (fun w' hw => by go_simp) (fun w' hw => g184 R9.out R15.out R11.out R13.out (Below.refl _ _)) (fun v hv => ?_)
  obtain ⟨e5, rfl, he5⟩ := G184 hv R9.out R15.out R11.out R13.out
  simp only [Act.put, List.setIfInBounds_toArray, List.set_cons_succ, List.set_cons_zero]
  refine RB.rel_val (v := .pointer (some ⟨w.heap.size, 10, none⟩)) rfl rfl (fun w' hw => by go_simp) ?_
  simp only [Act.put, List.setIfInBounds_toArray, List.set_cons_succ, List.set_cons_zero]
  refine RB.rel_loadF (w.heap.size) (10) m10 rfl rfl rfl (fun w' hw => ra w' hw (10) _ C10.out) ?_
  simp only [Act.put, List.setIfInBounds_toArray, List.set_cons_succ, List.set_cons_zero]
  refine RB.rel_val (v := .pointer (some ⟨w.heap.size, 15, none⟩)) rfl rfl (fun w' hw => by go_simp) ?_
  simp only [Act.put, List.setIfInBounds_toArray, List.set_cons_succ, List.set_cons_zero]
  refine RB.rel_loadF (w.heap.size) (15) m15 rfl rfl rfl (fun w' hw => ra w' hw (15) _ C15.out) ?_
  simp only [Act.put, List.setIfInBounds_toArray, List.set_cons_succ, List.set_cons_zero]
  refine RB.rel_val (v := .pointer (some ⟨w.heap.size, 11, none⟩)) rfl rfl (fun w' hw => by go_simp) ?_
  simp only [Act.put, List.setIfInBounds_toArray, List.set_cons_succ, List.set_cons_zero]
  refine RB.rel_loadF (w.heap.size) (11) m11 rfl rfl rfl (fun w' hw => ra w' hw (11) _ C11.out) ?_
  simp only [Act.put, List.setIfInBounds_toArray, List.set_cons_succ, List.set_cons_zero]
  refine RB.rel_val (v := .pointer (some ⟨w.heap.size, 14, none⟩)) rfl rfl (fun w' hw => by go_simp) ?_
  simp only [Act.put, List.setIfInBounds_toArray, List.set_cons_succ, List.set_cons_zero]
  refine RB.rel_loadF (w.heap.size) (14) m14 rfl rfl rfl (fun w' hw => ra w' hw (14) _ C14.out) ?_
  simp only [Act.put, List.setIfInBounds_toArray, List.set_cons_succ, List.set_cons_zero]
  refine RB.rel_call (f := 184) (args := #[.float .f64 m10, .float .f64 m15, .float .f64 m11, .float .f64 m14]) rfl rfl (fun w' hw => by go_simp) (fun w' hw => g184 R10.out R15.out R11.out R14.out (Below.refl _ _)) (fun v hv => ?_)
  obtain ⟨e6, rfl, he6⟩ := G184 hv R10.out R15.out R11.out R14.out
  simp only [Act.put, List.setIfInBounds_toArray, List.set_cons_succ, List.set_cons_zero]
  refine RB.rel_val (v := .agg #[.float .f64 e1, .float .f64 e2, .float .f64 e3, .float .f64 e4, .float .f64 e5, .float .f64 e6]) rfl rfl (fun w' hw => by go_simp) ?_
  simp only [Act.put, List.setIfInBounds_toArray, List.set_cons_succ, List.set_cons_zero]
  refine RB.rel_alloc 6 #[.float .f64 0, .float .f64 0, .float .f64 0, .float .f64 0, .float .f64 0, .float .f64 0] rfl rfl rfl (fun w' => by go_simp) (fun b5 => ?_)
  simp only [Act.put, List.setIfInBounds_toArray, List.set_cons_succ, List.set_cons_zero]
  refine RB.rel_nil ?_
  intro w5 hB5 hI
  have hx := hI.at (t := 5) (b := b5) rfl rfl
  have He := Lib.hid (show MinS (minors8 (mp ms)) [e1, e2, e3, e4, e5, e6] 6 from ⟨rfl, fun j hj => by
    rcases (by omega : j = 0 ∨ j = 1 ∨ j = 2 ∨ j = 3 ∨ j = 4 ∨ j = 5) with rfl | rfl | rfl | rfl | rfl | rfl
    · exact he1
    · exact he2
    · exact he3
    · exact he4
    · exact he5
    · exact he6⟩)
  have hb5 : b4 < b5 := by have := hx.1; have := hW.out.2.2; omega
  have HB5 := Lib.hid hb5
  have hb52 : w.heap.size + 1 + 1 < b5 := by have := HB4.out; omega
  have T5 := Lib.hid (show w5.there b5 0 ([e1, e2, e3, e4, e5, e6].map (Value.float .f64)).toArray.size from hx.2.2)
  have E5 := Lib.hid (size152A [e1, e2, e3, e4, e5, e6] rfl)
  have WF := Lib.hid (And.intro ((hW.out.1.below hB5).setRow hb52 ([e1, e2, e3, e4, e5, e6].map (Value.float .f64))) (And.intro (kp_setCells (range_below hW.out.2.1 hB5 hW.out.2.2) hb5 ([e1, e2, e3, e4, e5, e6].map (Value.float .f64))) (And.intro (World.rangeAt_setCells_same w5 b5 0 ([e1, e2, e3, e4, e5, e6].map (Value.float .f64)) hx.2.2)
    (show b4 < (w5.setCells b5 0 ([e1, e2, e3, e4, e5, e6].map (Value.float .f64))).heap.size ∧ b5 < (w5.setCells b5 0 ([e1, e2, e3, e4, e5, e6].map (Value.float .f64))).heap.size by rw [size_setCells]; exact ⟨Nat.lt_trans hb5 hx.2.1, hx.2.1⟩))))
  clear hx hB5 hI hW ra hb5 hb52 he1 he2 he3 he4 he5 he6
  go_upto_region 3 with (refine wpList_store_mid rfl 152 (.tmp 5) (.tmp 115) rfl b5 0 ([e1, e2, e3, e4, e5, e6].map (Value.float .f64)).toArray rfl rfl T5.out E5.out (one16 [e1, e2, e3, e4, e5, e6]) ?_)
  refine wp_gen (fun wx => Hid (PW wx w (ms.map (Value.float .f64)) ∧ wx.rangeAt b4 0 (ds.map (Value.float .f64)) ∧ wx.rangeAt b5 0 ([e1, e2, e3, e4, e5, e6].map (Value.float .f64)) ∧ b4 < wx.heap.size ∧ b5 < wx.heap.size)) WF ?_
  intro we hW
  clear WF T5 E5
  generalize [e1, e2, e3, e4, e5, e6] = es at *
  have P6 := hW.out.1
  have hd6 := Hd.out.1
  have he6 := He.out.1
  have r4 := hW.out.2.1
  have r5 := hW.out.2.2.1
  have T1 := thereA P6.t1 hd6
  have T2 := World.there_setCells (thereA P6.t2 he6) (w.heap.size + 1) 0 (ds.map (Value.float .f64))
  have r5' := kp_setCells' r5 (show b5 ≠ w.heap.size + 1 by have := HB4.out; have := HB5.out; omega) (ds.map (Value.float .f64))
  have E1 := size152A ds hd6
  have E2 := size152A es he6
  have F1 := Lib.hid (size152L ds hd6)
  have F2 := Lib.hid (size152L es he6)
  have WF := Lib.hid (And.intro (kp_setCells (g := w.heap.size + 1 + 1) (World.rangeAt_setCells_same we (w.heap.size + 1) 0 (ds.map (Value.float .f64)) (thereL P6.t1 hd6)) (by omega) (es.map (Value.float .f64))) (And.intro (World.rangeAt_setCells_same (we.setCells (w.heap.size + 1) 0 (ds.map (Value.float .f64))) (w.heap.size + 1 + 1) 0 (es.map (Value.float .f64)) (World.there_setCells (thereL P6.t2 he6) _ _ _))
    (below_setCells (below_setCells P6.b (show w.heap.size ≤ w.heap.size + 1 by omega) 0 (ds.map (Value.float .f64))) (show w.heap.size ≤ w.heap.size + 1 + 1 by omega) 0 (es.map (Value.float .f64)))))
  have HR := Lib.hid (And.intro r4 (And.intro r5 (And.intro r5' (And.intro T1 (And.intro T2 (And.intro E1 E2))))))
  clear P6 hd6 he6 hW r4 r5 r5' T1 T2 E1 E2
  refine wp_gen (fun wx => Hid ((wx.rangeAt b4 0 (ds.map (Value.float .f64)) ∧ wx.rangeAt b5 0 (es.map (Value.float .f64)) ∧ (wx.setCells (w.heap.size + 1) 0 (ds.map (Value.float .f64))).rangeAt b5 0 (es.map (Value.float .f64)) ∧ wx.there (w.heap.size + 1) 0 (ds.map (Value.float .f64)).toArray.size ∧ (wx.setCells (w.heap.size + 1) 0 (ds.map (Value.float .f64))).there (w.heap.size + 1 + 1) 0 (es.map (Value.float .f64)).toArray.size ∧ (Try.prog.info? 152).map (·.size) = some (ds.map (Value.float .f64)).toArray.size ∧ (Try.prog.info? 152).map (·.size) = some (es.map (Value.float .f64)).toArray.size) ∧ (((wx.setCells (w.heap.size + 1) 0 (ds.map (Value.float .f64))).setCells (w.heap.size + 1 + 1) 0 (es.map (Value.float .f64))).rangeAt (w.heap.size + 1) 0 (ds.map (Value.float .f64)) ∧ ((wx.setCells (w.heap.size + 1) 0 (ds.map (Value.float .f64))).setCells (w.heap.size + 1 + 1) 0 (es.map (Value.float .f64))).rangeAt (w.heap.size + 1 + 1) 0 (es.map (Value.float .f64)) ∧ Below w.heap.size w ((wx.setCells (w.heap.size + 1) 0 (ds.map (Value.float .f64))).setCells (w.heap.size + 1 + 1) 0 (es.map (Value.float .f64)))))) (Lib.hid (And.intro HR.out WF.out)) ?_
  intro wx hX
  have HX := Lib.hid (drew_all hX.out)
  clear hX HR WF
  refine wp_region_any (by kernel_rfl) ?_
  generalize hwd : ({ wx with drawn := wx.drawn + 1 } : World) = wy
  have HY := Lib.hid (hwd ▸ HX.out)
  clear HX hwd
  refine wpAny_ready (fuel := 3) (rs := [0, 1]) (by kernel_rfl) (by simp) ?_
  refine AllReady.cons rfl (fun K1 hK => ?_) (AllReady.cons rfl (fun K1 hK => ?_) AllReady.nil)
  · (refine wanted_go (by rfl) ?_; refine wp_load_mid 152 (.tmp 4) rfl b4 0 rfl (ds.map (Value.float .f64)) _ HY.out.1.1 Try.underlying152 rfl (size152L ds Hd.out.1) (hK _ _ ?_))
    simp only [Act.put, List.setIfInBounds_toArray, List.set_cons_succ, List.set_cons_zero]
    refine wpAny_ready (fuel := 2) (rs := [1, 2]) (by kernel_rfl) (by simp) ?_
    refine AllReady.cons rfl (fun K2 hK => ?_) (AllReady.cons rfl (fun K2 hK => ?_) AllReady.nil)
    · (refine wanted_go (by rfl) ?_; refine wp_load_mid 152 (.tmp 5) rfl b5 0 rfl (es.map (Value.float .f64)) _ HY.out.1.2.1 Try.underlying152 rfl (size152L es He.out.1) (hK _ _ ?_))
      simp only [Act.put, List.setIfInBounds_toArray, List.set_cons_succ, List.set_cons_zero]
      refine wpAny_ready (fuel := 1) (rs := [2]) (by kernel_rfl) (by simp) ?_
      refine AllReady.cons rfl (fun K3 hK => ?_) AllReady.nil
      (refine wanted_go (by rfl) ?_; refine wp_store_mid 152 (.tmp 2) (.tmp 116) rfl (w.heap.size + 1) 0 (ds.map (Value.float .f64)).toArray rfl rfl HY.out.1.2.2.2.1 HY.out.1.2.2.2.2.2.1 (one16 ds) (hK _ _ ?_))
      simp only [Act.put, List.setIfInBounds_toArray, List.set_cons_succ, List.set_cons_zero]
      refine wpAny_ready (fuel := 0) (rs := [3]) (by kernel_rfl) (by simp) ?_
      refine AllReady.cons rfl (fun K4 hK => ?_) AllReady.nil
      (refine wanted_go (by rfl) ?_; refine wp_store_mid 152 (.tmp 3) (.tmp 117) rfl (w.heap.size + 1 + 1) 0 (es.map (Value.float .f64)).toArray rfl rfl HY.out.1.2.2.2.2.1 HY.out.1.2.2.2.2.2.2 (one16 es) (hK _ _ ?_))
      refine wpAny_done (by kernel_rfl) ?_ _
      simp only [Act.put, List.setIfInBounds_toArray, List.set_cons_succ, List.set_cons_zero]
      go_wp2
      refine bodyPost_ret (v := .tuple #[.agg _, .agg _]) (ret_rows Try.prog Try.results160 rfl rfl _ _ HY.out.2.1 HY.out.2.2.1 Try.underlying152 rfl F1.out F2.out) rfl ?_
      exact ⟨⟨ds, es, rfl, Hd.out, He.out⟩, HY.out.2.2.2⟩
    · (refine wanted_go (by rfl) ?_; refine wp_store_mid 152 (.tmp 2) (.tmp 116) rfl (w.heap.size + 1) 0 (ds.map (Value.float .f64)).toArray rfl rfl HY.out.1.2.2.2.1 HY.out.1.2.2.2.2.2.1 (one16 ds) (hK _ _ ?_))
      simp only [Act.put, List.setIfInBounds_toArray, List.set_cons_succ, List.set_cons_zero]
      refine wpAny_ready (fuel := 1) (rs := [1]) (by kernel_rfl) (by simp) ?_
      refine AllReady.cons rfl (fun K3 hK => ?_) AllReady.nil
      (refine wanted_go (by rfl) ?_; refine wp_load_mid 152 (.tmp 5) rfl b5 0 rfl (es.map (Value.float .f64)) _ HY.out.1.2.2.1 Try.underlying152 rfl (size152L es He.out.1) (hK _ _ ?_))
      simp only [Act.put, List.setIfInBounds_toArray, List.set_cons_succ, List.set_cons_zero]
      refine wpAny_ready (fuel := 0) (rs := [3]) (by kernel_rfl) (by simp) ?_
      refine AllReady.cons rfl (fun K4 hK => ?_) AllReady.nil
      (refine wanted_go (by rfl) ?_; refine wp_store_mid 152 (.tmp 3) (.tmp 117) rfl (w.heap.size + 1 + 1) 0 (es.map (Value.float .f64)).toArray rfl rfl HY.out.1.2.2.2.2.1 HY.out.1.2.2.2.2.2.2 (one16 es) (hK _ _ ?_))
      refine wpAny_done (by kernel_rfl) ?_ _
      simp only [Act.put, List.setIfInBounds_toArray, List.set_cons_succ, List.set_cons_zero]
      go_wp2
      refine bodyPost_ret (v := .tuple #[.agg _, .agg _]) (ret_rows Try.prog Try.results160 rfl rfl _ _ HY.out.2.1 HY.out.2.2.1 Try.underlying152 rfl F1.out F2.out) rfl ?_
      exact ⟨⟨ds, es, rfl, Hd.out, He.out⟩, HY.out.2.2.2⟩
  · (refine wanted_go (by rfl) ?_; refine wp_load_mid 152 (.tmp 5) rfl b5 0 rfl (es.map (Value.float .f64)) _ HY.out.1.2.1 Try.underlying152 rfl (size152L es He.out.1) (hK _ _ ?_))
    simp only [Act.put, List.setIfInBounds_toArray, List.set_cons_succ, List.set_cons_zero]
    refine wpAny_ready (fuel := 2) (rs := [0]) (by kernel_rfl) (by simp) ?_
    refine AllReady.cons rfl (fun K2 hK => ?_) AllReady.nil
    (refine wanted_go (by rfl) ?_; refine wp_load_mid 152 (.tmp 4) rfl b4 0 rfl (ds.map (Value.float .f64)) _ HY.out.1.1 Try.underlying152 rfl (size152L ds Hd.out.1) (hK _ _ ?_))
    simp only [Act.put, List.setIfInBounds_toArray, List.set_cons_succ, List.set_cons_zero]
    refine wpAny_ready (fuel := 1) (rs := [2]) (by kernel_rfl) (by simp) ?_
    refine AllReady.cons rfl (fun K3 hK => ?_) AllReady.nil
    (refine wanted_go (by rfl) ?_; refine wp_store_mid 152 (.tmp 2) (.tmp 116) rfl (w.heap.size + 1) 0 (ds.map (Value.float .f64)).toArray rfl rfl HY.out.1.2.2.2.1 HY.out.1.2.2.2.2.2.1 (one16 ds) (hK _ _ ?_))
    simp only [Act.put, List.setIfInBounds_toArray, List.set_cons_succ, List.set_cons_zero]
    refine wpAny_ready (fuel := 0) (rs := [3]) (by kernel_rfl) (by simp) ?_
    refine AllReady.cons rfl (fun K4 hK => ?_) AllReady.nil
    (refine wanted_go (by rfl) ?_; refine wp_store_mid 152 (.tmp 3) (.tmp 117) rfl (w.heap.size + 1 + 1) 0 (es.map (Value.float .f64)).toArray rfl rfl HY.out.1.2.2.2.2.1 HY.out.1.2.2.2.2.2.2 (one16 es) (hK _ _ ?_))
    refine wpAny_done (by kernel_rfl) ?_ _
    simp only [Act.put, List.setIfInBounds_toArray, List.set_cons_succ, List.set_cons_zero]
    go_wp2
    refine bodyPost_ret (v := .tuple #[.agg _, .agg _]) (ret_rows Try.prog Try.results160 rfl rfl _ _ HY.out.2.1 HY.out.2.2.1 Try.underlying152 rfl F1.out F2.out) rfl ?_
    exact ⟨⟨ds, es, rfl, Hd.out, He.out⟩, HY.out.2.2.2⟩
theorem two_rows (w2 : World) (ds es : List Nat) (hd : ds.length = 6) (he : es.length = 6) :
    ((w2.alloc (.cells Z6v 152)).alloc (.cells Z6v 152)).there w2.heap.size 0 6 ∧ (((w2.alloc (.cells Z6v 152)).alloc (.cells Z6v 152)).setCells w2.heap.size 0 (ds.map (Value.float .f64))).there (w2.heap.size + 1) 0 6 ∧
    ((((w2.alloc (.cells Z6v 152)).alloc (.cells Z6v 152)).setCells w2.heap.size 0 (ds.map (Value.float .f64))).setCells (w2.heap.size + 1) 0 (es.map (Value.float .f64))).rangeAt w2.heap.size 0 (ds.map (Value.float .f64)) ∧ ((((w2.alloc (.cells Z6v 152)).alloc (.cells Z6v 152)).setCells w2.heap.size 0 (ds.map (Value.float .f64))).setCells (w2.heap.size + 1) 0 (es.map (Value.float .f64))).rangeAt (w2.heap.size + 1) 0 (es.map (Value.float .f64)) ∧ Below w2.heap.size w2 ((((w2.alloc (.cells Z6v 152)).alloc (.cells Z6v 152)).setCells w2.heap.size 0 (ds.map (Value.float .f64))).setCells (w2.heap.size + 1) 0 (es.map (Value.float .f64))) := by
  have e1 : (w2.alloc (.cells Z6v 152)).heap.size = w2.heap.size + 1 := by simp
  have t1 := there_below (there_new w2 Z6v 152 6 rfl) (alloc_below (w2.alloc (.cells Z6v 152)) (.cells Z6v 152)) (by omega)
  have t2 := there_new (w2.alloc (.cells Z6v 152)) Z6v 152 6 rfl
  rw [e1] at t2
  have b := ((Below.refl w2.heap.size w2).alloc (Nat.le_refl _) (.cells Z6v 152)).alloc (by simp) (.cells Z6v 152)
  generalize (w2.alloc (.cells Z6v 152)).alloc (.cells Z6v 152) = V at *
  have t2' := World.there_setCells t2 w2.heap.size 0 (ds.map (Value.float .f64))
  exact ⟨t1, t2', kp_setCells (World.rangeAt_setCells_same _ _ _ _ (thereL t1 hd)) (by omega) _, World.rangeAt_setCells_same _ _ _ _ (thereL t2' he), below_setCells (below_setCells b (Nat.le_refl _) 0 _) (by omega) 0 _⟩
set_option maxRecDepth 100000 in
set_option maxHeartbeats 2000000 in
theorem k104 {ms : List Nat} (hm : MU ms) (w : World) :
    Calls Try.prog 104 #[.agg (ms.map (Value.float .f64)).toArray] w fun e w' => RetR (detP (mp ms)) e ∧ Below w.heap.size w w' := by
  have HM := Lib.hid hm
  have RM := Lib.hid (range_new w (ms.map (Value.float .f64)) 80)
  have SM := Lib.hid (size80L ms hm.1)
  have B1 := Lib.hid (alloc_below w (.cells (ms.map (Value.float .f64)).toArray 80))
  clear hm
  go_enter Try.func104, Try.ntmps104
  go_wp2_with (refine wpList_load_mid rfl 80 (.tmp 1) rfl w.heap.size 0 rfl (ms.map (Value.float .f64)) _ RM.out Try.underlying80 rfl SM.out ?_)
  refine (k160 HM.out _).mono ?_
  rintro e w2 ⟨⟨ds, es, rfl, hds, hes⟩, hb⟩
  have hd6 := hds.1
  have he6 := hes.1
  have TR := two_rows w2 ds es hd6 he6
  have BW := Lib.hid (below_trans B1.out hb)
  have E1 := Lib.hid (size152A ds hd6)
  have E2 := Lib.hid (size152A es he6)
  have T1 := Lib.hid (thereA TR.1 hd6)
  have T2 := Lib.hid (thereA TR.2.1 he6)
  have WF := Lib.hid (And.intro TR.2.2.1 (And.intro TR.2.2.2.1 (below_trans BW.out TR.2.2.2.2)))
  clear TR hb B1 RM SM
  go_upto_region 2 with (first
    | (refine wpList_store_mid rfl 152 (.tmp 3) (.tmp 9) rfl w2.heap.size 0 (ds.map (Value.float .f64)).toArray rfl rfl T1.out E1.out (one16 ds) ?_)
    | (refine wpList_store_mid rfl 152 (.tmp 4) (.tmp 10) rfl (w2.heap.size + 1) 0 (es.map (Value.float .f64)).toArray rfl rfl T2.out E2.out (one16 es) ?_))
  refine wp_gen (fun wx => Hid (wx.rangeAt w2.heap.size 0 (ds.map (Value.float .f64)) ∧ wx.rangeAt (w2.heap.size + 1) 0 (es.map (Value.float .f64)) ∧ Below w.heap.size w wx)) WF ?_
  intro wd hD
  clear WF T1 T2 E1 E2 BW
  generalize w2.heap.size = b3 at *
  obtain ⟨d0, d1, d2, d3, d4, d5, rfl⟩ := six hd6
  obtain ⟨e0, e1, e2, e3, e4, e5, rfl⟩ := six he6
  have RD := Lib.hid hds.2
  have RE := Lib.hid hes.2
  obtain ⟨x0, x1, x2, x3, x4, x5⟩ := cells6 hD.out.1
  obtain ⟨y0, y1, y2, y3, y4, y5⟩ := cells6 hD.out.2.1
  have BD := Lib.hid (fun n => Bd hD.out.2.2 n)
  have hA := fun x y w => run_fop (P := Try.prog) .add rfl 24 x y w
  have hS := fun x y w => run_fop (P := Try.prog) .sub rfl 24 x y w
  have hM := fun x y w => run_fop (P := Try.prog) .mul rfl 24 x y w
  clear hds hes hd6 he6 hD
  go_wp2
  go_ret
  exact ⟨⟨_, rfl, (RV.fop .add (RV.fop .sub (RV.fop .add (RV.fop .add (RV.fop .sub (RV.fop .mul (show RV d0 _ from RD.out 0 (by decide)) (show RV e5 _ from RE.out 5 (by decide)) _) (RV.fop .mul (show RV d1 _ from RD.out 1 (by decide)) (show RV e4 _ from RE.out 4 (by decide)) _) _) (RV.fop .mul (show RV d2 _ from RD.out 2 (by decide)) (show RV e3 _ from RE.out 3 (by decide)) _) _) (RV.fop .mul (show RV d3 _ from RD.out 3 (by decide)) (show RV e2 _ from RE.out 2 (by decide)) _) _) (RV.fop .mul (show RV d4 _ from RD.out 4 (by decide)) (show RV e1 _ from RE.out 1 (by decide)) _) _) (RV.fop .mul (show RV d5 _ from RD.out 5 (by decide)) (show RV e0 _ from RE.out 0 (by decide)) _) _)⟩, BD.out _⟩
end Go.Proofs.Ytelalledjbeenaa
