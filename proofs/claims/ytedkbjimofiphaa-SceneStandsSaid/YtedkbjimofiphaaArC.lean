/- scene.Area: the walk. -/
import Derived.Test.YtedkbjimofiphaaMgArA
import Derived.Test.YtedkbjimofiphaaSumN
import Derived.Test.YtedkbjimofiphaaMgRwC
namespace Go.Proofs.Ytedkbjimofiphaa
open Go.RowKit Fl
structure AR (w0 w : World) (base g3 g4 i : Nat) (t : ITM) (xs ys l : List Nat) (v : Value) : Prop where
  a3 : w.rangeAt g3 0 (xs.map (Value.float .f64))
  a4 : w.rangeAt g4 0 (ys.map (Value.float .f64))
  l3 : g3 < base
  l4 : g4 < base
  hb : base ≤ w.heap.size
  b0 : w0.heap.size ≤ base
  o : w.ownsRow base 31 1 v (2 * i) (l.map (Value.float .f64))
  u : ∀ x ∈ l, U x
  p : l.map pl = areaL t i
  b : Below w0.heap.size w0 w
theorem AR.next {w0 w w1 w' : World} {base g3 g4 i r s : Nat} {t : ITM} {xs ys l : List Nat} {v v' : Value} (h : AR w0 w base g3 g4 i t xs ys l v) (hb : Below w.heap.size w w1)
    (ho : w'.ownsRow base 31 1 v' (2 * i + 2) (l.map (Value.float .f64) ++ [.float .f64 r, .float .f64 s])) (hg : w1.grownBy w' v.ownBlock) (hr : RV r (opP .mul (cxP t i) (cyP t ((i + 1) % 4)))) (hs : RV s (ngP (opP .mul (cxP t ((i + 1) % 4)) (cyP t i)))) :
    AR w0 w' base g3 g4 (i + 1) t xs ys (l ++ [r, s]) v' := by
  have k1 : Keep base (fun _ => False) w1 w' := Keep.of_grown hg (Nat.le_trans h.hb hb.size) (fun k hk => (h.o.lt k hk).1)
  have z3 := h.l3
  have z4 := h.l4
  have zb := h.hb
  refine ⟨range_keep (range_below h.a3 hb (by omega)) k1 h.l3 (fun e => e), range_keep (range_below h.a4 hb (by omega)) k1 h.l4 (fun e => e), h.l3, h.l4, Nat.le_trans (Nat.le_trans h.hb hb.size) k1.size, h.b0, ?_, fun x hx => ?_, ?_,
    h.b.trans ((hb.mono h.b.size).trans (k1.below _ (by exact h.b0) (fun _ _ e => e)))⟩
  · rw [show 2 * (i + 1) = 2 * i + 2 by omega, List.map_append]; exact ho
  · rcases List.mem_append.1 hx with hx | hx
    · exact h.u x hx
    · rcases List.mem_cons.1 hx with rfl | hx
      · exact hr.1
      · rw [List.mem_singleton.1 hx]; exact hs.1
  · unfold areaL
    rw [List.map_append, h.p, List.range_succ, List.flatMap_append, List.flatMap_cons, List.flatMap_nil, List.append_nil]
    unfold ar2
    rw [← hr.2, ← hs.2]; rfl
theorem two_rows20 (w : World) (xs ys : List Value) (hx : xs.length = 4) (hy : ys.length = 4) :
    ((w.alloc (.cells #[.float .f64 0, .float .f64 0, .float .f64 0, .float .f64 0] 102)).alloc (.cells #[.float .f64 0, .float .f64 0, .float .f64 0, .float .f64 0] 102)).there w.heap.size 0 xs.toArray.size ∧
    (((w.alloc (.cells #[.float .f64 0, .float .f64 0, .float .f64 0, .float .f64 0] 102)).alloc (.cells #[.float .f64 0, .float .f64 0, .float .f64 0, .float .f64 0] 102)).setCells w.heap.size 0 xs).there (w.heap.size + 1) 0 ys.toArray.size ∧
    ((((w.alloc (.cells #[.float .f64 0, .float .f64 0, .float .f64 0, .float .f64 0] 102)).alloc (.cells #[.float .f64 0, .float .f64 0, .float .f64 0, .float .f64 0] 102)).setCells w.heap.size 0 xs).setCells (w.heap.size + 1) 0 ys).rangeAt w.heap.size 0 xs ∧
    ((((w.alloc (.cells #[.float .f64 0, .float .f64 0, .float .f64 0, .float .f64 0] 102)).alloc (.cells #[.float .f64 0, .float .f64 0, .float .f64 0, .float .f64 0] 102)).setCells w.heap.size 0 xs).setCells (w.heap.size + 1) 0 ys).rangeAt (w.heap.size + 1) 0 ys ∧
    Below w.heap.size w ((((w.alloc (.cells #[.float .f64 0, .float .f64 0, .float .f64 0, .float .f64 0] 102)).alloc (.cells #[.float .f64 0, .float .f64 0, .float .f64 0, .float .f64 0] 102)).setCells w.heap.size 0 xs).setCells (w.heap.size + 1) 0 ys) ∧
    ((((w.alloc (.cells #[.float .f64 0, .float .f64 0, .float .f64 0, .float .f64 0] 102)).alloc (.cells #[.float .f64 0, .float .f64 0, .float .f64 0, .float .f64 0] 102)).setCells w.heap.size 0 xs).setCells (w.heap.size + 1) 0 ys).heap.size = w.heap.size + 2 := by
  have s1 : (w.alloc (.cells #[.float .f64 0, .float .f64 0, .float .f64 0, .float .f64 0] 102)).heap.size = w.heap.size + 1 := by simp
  have t1 := World.there_alloc (there_new w #[.float .f64 0, .float .f64 0, .float .f64 0, .float .f64 0] 102 4 rfl) (.cells #[.float .f64 0, .float .f64 0, .float .f64 0, .float .f64 0] 102)
  have t2 := there_new (w.alloc (.cells #[.float .f64 0, .float .f64 0, .float .f64 0, .float .f64 0] 102)) #[.float .f64 0, .float .f64 0, .float .f64 0, .float .f64 0] 102 4 rfl
  rw [s1] at t2
  have t3 := World.there_setCells t2 w.heap.size 0 xs
  refine ⟨by rw [show xs.toArray.size = 4 from by simp [hx]]; exact t1, by rw [show ys.toArray.size = 4 from by simp [hy]]; exact t3, World.rangeAt_setCells_apart (World.rangeAt_setCells_same _ _ 0 _ (by rw [hx]; exact t1)) _ 0 ys (.inl (by omega)), World.rangeAt_setCells_same _ _ 0 _ (by rw [hy]; exact t3),
    below_setCells (below_setCells (((Below.refl _ _).alloc (Nat.le_refl _) _).alloc (by simp) _) (Nat.le_refl _) 0 _) (by omega) 0 _, by rw [size_setCells, size_setCells]; simp⟩
theorem loadcells (t : ITM) (ht : t.OK) : (Try.prog.info? 60).map (·.size) = some t.cells.length := by rw [ITM.len ht]; kernel_rfl
theorem rv_abs {r : Nat} {p : Int} (h : RV r p) : RV (rg r) (abP p) := ⟨(pl_rgA h.1).1, by rw [(pl_rgA h.1).2, h.2]⟩
theorem owned_FS {w : World} {base n c : Nat} {p : Option Addr} {l : List Nat} (h : w.ownsRow base 31 1 (.slice p n c) n (l.map (Value.float .f64))) (hU : ∀ x ∈ l, U x) : FS w p l := by
  have hl : (l.map (Value.float .f64)).length = n * 1 := h.1
  rw [List.length_map, Nat.mul_one] at hl
  rcases Nat.eq_zero_or_pos n with h0 | h0
  · exact .inl (List.length_eq_zero_iff.1 (by omega))
  · obtain ⟨g, rfl, _, hlt⟩ := owned_some h h0
    refine .inr ⟨g, 0, rfl, fun j x hj => ?_, fun j x hj => hU x (List.mem_of_getElem? hj), hlt⟩
    have hj' : j < n := by rw [← hl]; exact (List.getElem?_eq_some_iff.1 hj).1
    rw [Nat.zero_add, World.ownsRow.cellAt h j (by omega), List.getElem?_map, hj]; rfl
set_option maxRecDepth 100000 in
set_option maxHeartbeats 2000000 in
theorem c20 (w : World) (t : ITM) (ht : t.OK) : Calls Try.prog 20 #[.agg t.cells.toArray] w fun e w' => RetF (areaP t) e ∧ Below w.heap.size w w' := by
  obtain ⟨W0, hW0⟩ : ∃ W0, W0 = w.alloc (.cells t.cells.toArray 60) := ⟨_, rfl⟩
  have R0 : W0.rangeAt w.heap.size 0 t.cells := by rw [hW0]; exact range_new w _ 60
  have s0 : W0.heap.size = w.heap.size + 1 := by rw [hW0]; simp
  have B0 := Lib.hid (show Below w.heap.size w W0 by rw [hW0]; exact (Below.refl _ _).alloc (Nat.le_refl _) _)
  have R0 := Lib.hid R0
  have HT := Lib.hid ht
  have HW := Lib.hid (And.intro hW0 s0)
  have CA := Lib.hid (c41 W0 t ht)
  have LC := Lib.hid (loadcells t ht)
  clear ht hW0 s0
  generalize htc : t.cells = tc at *
  clear htc
  go_enter Try.func20, Try.ntmps20
  go_upto_region 1 with fail
  rw [← HW.out.1]
  go_wp2_with (first
    | (refine wpList_load_mid rfl 60 (.tmp 1) rfl w.heap.size 0 rfl tc _ R0.out Try.underlying60 rfl LC.out ?_))
  go_at_call 41
  refine CA.out.mono fun e w2 ⟨⟨xs, ys, he, lx, ly, fx, fy⟩, hb2⟩ => ?_
  subst he
  have TR := Lib.hid (two_rows20 w2 (xs.map (Value.float .f64)) (ys.map (Value.float .f64)) (by rw [List.length_map]; exact lx) (by rw [List.length_map]; exact ly))
  have FX := Lib.hid (And.intro lx (And.intro ly (And.intro fx fy)))
  have SX := Lib.hid (show (Try.prog.info? 102).map (·.size) = some (xs.map (Value.float .f64)).toArray.size by rw [List.size_toArray]; exact size102 lx)
  have SY := Lib.hid (show (Try.prog.info? 102).map (·.size) = some (ys.map (Value.float .f64)).toArray.size by rw [List.size_toArray]; exact size102 ly)
  have BB := Lib.hid (B0.out.trans (hb2.mono B0.out.size))
  clear lx ly fx fy hb2 CA R0 LC
  go_upto_region 3 with (first
    | (refine wpList_store_mid rfl 102 (.tmp 3) (.tmp 11) rfl w2.heap.size 0 (xs.map (Value.float .f64)).toArray rfl rfl TR.out.1 SX.out (oneF xs) ?_)
    | (refine wpList_store_mid rfl 102 (.tmp 4) (.tmp 12) rfl (w2.heap.size + 1) 0 (ys.map (Value.float .f64)).toArray rfl rfl TR.out.2.1 SY.out (oneF ys) ?_))
  obtain ⟨-, -, a3, a4, bb, sz⟩ := TR.out
  generalize (((w2.alloc (.cells #[.float .f64 0, .float .f64 0, .float .f64 0, .float .f64 0] 102)).alloc (.cells #[.float .f64 0, .float .f64 0, .float .f64 0, .float .f64 0] 102)).setCells w2.heap.size 0 (xs.map (Value.float .f64))).setCells (w2.heap.size + 1) 0 (ys.map (Value.float .f64)) = w5 at *
  have A0 := Lib.hid (show AR w w5 w5.heap.size w2.heap.size (w2.heap.size + 1) 0 t xs ys [] (.slice none 0 0) from ⟨a3, a4, by omega, by omega, Nat.le_refl _, by have := BB.out.size; omega, World.ownsRow_nil .., (fun x hx => by cases hx), rfl, BB.out.trans (bb.mono BB.out.size)⟩)
  clear TR SX SY a3 a4 bb sz BB B0 HW
  generalize w5.heap.size = base at *
  generalize w2.heap.size + 1 = g4 at *
  generalize w2.heap.size = g3 at *
  go_wp2_with fail
  go_loopw [5, 13, 35] (fun v ii st wx => ∃ (i : Nat) (l : List Nat), ii = .int .i64 (i : Int) ∧ i ≤ 4 ∧ Hid (AR w wx base g3 g4 i t xs ys l v) ∧ Hid (∀ g, st = .slice (some ⟨g, 0, none⟩) 2 2 → g < wx.heap.size)) (fun _ ii _ _ => 4 - (intOf ii).toNat)
  case atStart => exact ⟨0, [], by go_num, by omega, A0, Lib.hid fun g h => by cases h⟩
  case round =>
    obtain ⟨i, l, rfl, hi4, hA, hS⟩ := hrel
    obtain ⟨pv, cv, rfl, -⟩ := owned_slice hA.out.o
    by_cases hlt : i < 4
    · have hii : (i : Int) < 4 := by omega
      have di : decide ((i : Int) < 4) = true := decide_eq_true hii
      obtain ⟨k, hk⟩ : ∃ k, k = (i + 1) % 4 := ⟨_, rfl⟩
      have e1 : ((i : Int) + 1).tmod 4 = (k : Int) := by
        rcases (show i = 0 ∨ i = 1 ∨ i = 2 ∨ i = 3 by omega) with rfl | rfl | rfl | rfl <;> subst hk <;> decide
      have hk4 : k < 4 := by omega
      have HK := Lib.hid hk
      clear hk
      go_upto_region 7 with fail
      have A := hA.out
      have q3 := A.l3
      have q4 := A.l4
      have qb := A.hb
      obtain ⟨xl, yl, fx, fy⟩ := FX.out
      refine areg7 wr g3 g4 i k base (2 * i) cv pv xs ys (l.map (Value.float .f64)) (cxP t i) (cyP t k) (cxP t k) (cyP t i) _ _ _ _ _ _ _ _ _ _ _ _ _ _ _ _ _ _ _ _ _ _ _ _ _ _ _ _ _ _ _ _ _ _ _ _ _ hS.out A.a3 A.a4 xl yl (by omega) (by omega) hlt hk4 (fx i hlt) (fy k hk4) (fx k hk4) (fy i hlt) A.o A.hb (by omega) (fun v19 v20 v21 v22 v23 v24 v25 v26 v27 v28 v29 v30 v31 v32 v33 v34 v36 pw cw w1 w' r s g hb1 hr hs hown hgrow hg => ?_)
      have A2 := Lib.hid (A.next hb1 hown hgrow (by rw [← HK.out]; exact hr) (by rw [← HK.out]; exact hs))
      have S2 := Lib.hid (show ∀ g', Value.slice (some ⟨g, 0, none⟩) 2 2 = .slice (some ⟨g', 0, none⟩) 2 2 → g' < w'.heap.size from fun g' e => by injection e with e; injection e with e; injection e with e; rw [← e]; exact hg)
      clear hb1 hr hs hown hgrow hg A q3 q4 qb xl yl fx fy hA hS di hii e1
      go_wp2_with fail
      go_roundw
      case rel => exact ⟨i + 1, l ++ [r, s], by go_num, by omega, A2, S2⟩
      case measure => simp [intOf]; omega
    · have e4 : i = 4 := by omega
      subst e4
      have A := hA.out
      have LL := Lib.hid (show l.length = 8 by have := A.o.1; simpa using this)
      have FL8 := Lib.hid (owned_FS A.o A.u)
      have AL := Lib.hid (show accS l = accP (areaL t 4) by rw [accS_places A.u, A.p])
      have BB := Lib.hid A.b
      clear A hA hS hlt
      go_wp2_with (go_at_call 43; fail)
      refine (c23N pv cv l _ _ LL.out FL8.out (by decide)).mono ?_
      rintro e w2 ⟨⟨r, rfl, ur, pr⟩, hb2⟩
      have B2 := Lib.hid (BB.out.trans (hb2.mono BB.out.size))
      have HR := Lib.hid (show RV r (pV (accP (areaL t 4))) from ⟨ur, by rw [pr, AL.out]⟩)
      clear ur pr hb2
      go_wp2_with (go_at_call 42; fail)
      refine (c133 r _ HR.out.1).mono ?_
      rintro e w3 ⟨rfl, rfl⟩
      have hM := fun w => run_fop (P := Try.prog) .mul rfl 31 4602678819172646912 (rg r) w
      have HF := Lib.hid (fun w => RV.fop .mul (show RV 4602678819172646912 4602678819172646912 from ⟨by unfold U; decide, by decide⟩) (rv_abs HR.out) w)
      go_wp2
      go_ret
      exact ⟨⟨_, rfl, (HF.out _).1, (HF.out _).2⟩, below_drewN B2.out⟩
end Go.Proofs.Ytedkbjimofiphaa
