/- The determinant in ints. -/
import Derived.Test.YtelalledjbeenaaMgWA
namespace Go.Proofs.Ytelalledjbeenaa
open Go.RowKit Fl

/-- the columns but one -/
def oth (c j : Nat) : Nat := if j < c then j else j + 1
def nZ (a : Nat → Int) (c i : Nat) : Int := a (4 * c + i)
def minZ (a : Nat → Int) (c : Nat) : Int :=
  nZ a (oth c 0) 1 * (nZ a (oth c 1) 2 * nZ a (oth c 2) 3 - nZ a (oth c 2) 2 * nZ a (oth c 1) 3) - nZ a (oth c 1) 1 * (nZ a (oth c 0) 2 * nZ a (oth c 2) 3 - nZ a (oth c 2) 2 * nZ a (oth c 0) 3)
    + nZ a (oth c 2) 1 * (nZ a (oth c 0) 2 * nZ a (oth c 1) 3 - nZ a (oth c 1) 2 * nZ a (oth c 0) 3)
def dsum (a : Nat → Int) : Nat → Int
  | 0 => 0
  | c + 1 => if c % 2 = 0 then dsum a c + nZ a c 0 * minZ a c else dsum a c - nZ a c 0 * minZ a c
theorem dsum_det (a : Nat → Int) : dsum a 4 = detZ a := det_row (a 0) (a 1) (a 2) (a 3) (a 4) (a 5) (a 6) (a 7) (a 8) (a 9) (a 10) (a 11) (a 12) (a 13) (a 14) (a 15)
theorem wrapB (x : Int) (B : Nat) (h : x.natAbs ≤ B) (hB : B ≤ 4611686018427387904) : IntKind.i64.wrap x = x := IntWalk.i64_in _ (by omega)
theorem mulB {x y : Int} {A B : Nat} (hx : x.natAbs ≤ A) (hy : y.natAbs ≤ B) : (x * y).natAbs ≤ A * B := by rw [Int.natAbs_mul]; exact Nat.mul_le_mul hx hy
theorem wmin (x0 x1 x2 y0 y1 y2 t0 t1 t2 : Int) (h0 : x0.natAbs ≤ 1024) (h1 : x1.natAbs ≤ 1024) (h2 : x2.natAbs ≤ 1024) (k0 : y0.natAbs ≤ 1024) (k1 : y1.natAbs ≤ 1024) (k2 : y2.natAbs ≤ 1024) (l0 : t0.natAbs ≤ 1024) (l1 : t1.natAbs ≤ 1024) (l2 : t2.natAbs ≤ 1024) :
    IntKind.i64.wrap (IntKind.i64.wrap (IntKind.i64.wrap (x0 * IntKind.i64.wrap (IntKind.i64.wrap (y1 * t2) - IntKind.i64.wrap (y2 * t1))) - IntKind.i64.wrap (x1 * IntKind.i64.wrap (IntKind.i64.wrap (y0 * t2) - IntKind.i64.wrap (y2 * t0)))) + IntKind.i64.wrap (x2 * IntKind.i64.wrap (IntKind.i64.wrap (y0 * t1) - IntKind.i64.wrap (y1 * t0))))
      = x0 * (y1 * t2 - y2 * t1) - x1 * (y0 * t2 - y2 * t0) + x2 * (y0 * t1 - y1 * t0) ∧ (x0 * (y1 * t2 - y2 * t1) - x1 * (y0 * t2 - y2 * t0) + x2 * (y0 * t1 - y1 * t0)).natAbs ≤ 6442450944 := by
  have w2 : ∀ {x y : Int}, x.natAbs ≤ 1024 → y.natAbs ≤ 1024 → IntKind.i64.wrap (x * y) = x * y ∧ (x * y).natAbs ≤ 1048576 := fun hx hy => ⟨wrapB _ _ (mulB hx hy) (by decide), mulB hx hy⟩
  have w3 : ∀ {x y : Int}, x.natAbs ≤ 1048576 → y.natAbs ≤ 1048576 → IntKind.i64.wrap (x - y) = x - y ∧ (x - y).natAbs ≤ 2097152 := fun hx hy => ⟨wrapB _ 2097152 (by omega) (by decide), by omega⟩
  have w4 : ∀ {x y : Int}, x.natAbs ≤ 1024 → y.natAbs ≤ 2097152 → IntKind.i64.wrap (x * y) = x * y ∧ (x * y).natAbs ≤ 2147483648 := fun hx hy => ⟨wrapB _ _ (mulB hx hy) (by decide), mulB hx hy⟩
  have a := w4 h0 (w3 (w2 k1 l2).2 (w2 k2 l1).2).2
  have b := w4 h1 (w3 (w2 k0 l2).2 (w2 k2 l0).2).2
  have c := w4 h2 (w3 (w2 k0 l1).2 (w2 k1 l0).2).2
  rw [(w2 k1 l2).1, (w2 k2 l1).1, (w2 k0 l2).1, (w2 k2 l0).1, (w2 k0 l1).1, (w2 k1 l0).1, (w3 (w2 k1 l2).2 (w2 k2 l1).2).1, (w3 (w2 k0 l2).2 (w2 k2 l0).2).1, (w3 (w2 k0 l1).2 (w2 k1 l0).2).1, a.1, b.1, c.1]
  have a2 := a.2
  have b2 := b.2
  have c2 := c.2
  generalize x0 * (y1 * t2 - y2 * t1) = p at *
  generalize x1 * (y0 * t2 - y2 * t0) = q at *
  generalize x2 * (y0 * t1 - y1 * t0) = r at *
  rw [wrapB (p - q) 4294967296 (by omega) (by decide), wrapB (p - q + r) 6442450944 (by omega) (by decide)]
  exact ⟨rfl, by omega⟩
theorem dsum_bound (a : Nat → Int) (h : ∀ c, c < 4 → (nZ a c 0 * minZ a c).natAbs ≤ 6597069766656) : ∀ c, c ≤ 4 → (dsum a c).natAbs ≤ c * 6597069766656 := by
  intro c
  induction c with
  | zero => intro _; simp [dsum]
  | succ c ih =>
    intro hc
    have h1 := ih (by omega)
    have h2 := h c (by omega)
    unfold dsum
    split <;> omega
/-- how many of the columns below x there are but c -/
def cntO (c x : Nat) : Nat := if c < x then x - 1 else x
structure MI (w wx : World) (ms : List Nat) (d c x : Nat) : Prop where
  a : wx.rangeAt w.heap.size 0 (ms.map (Value.float .f64))
  b : Below w.heap.size w wx
  lt : w.heap.size < d ∧ d < wx.heap.size
  f : ∀ j, j < 3 → wx.frozen? ⟨d, j, none⟩ = false
  cl : ∀ j, j < 3 → ∃ v, wx.cell? ⟨d, j, none⟩ = some v
  o : ∀ j, j < cntO c x → wx.cell? ⟨d, j, none⟩ = some (.int .i64 (oth c j : Nat))
theorem mi_start {w wr : World} {ms : List Nat} (h : wr.rangeAt w.heap.size 0 (ms.map (Value.float .f64)) ∧ Below w.heap.size w wr ∧ w.heap.size < wr.heap.size) (c : Nat) :
    MI w (wr.alloc (.cells #[.int .i64 0, .int .i64 0, .int .i64 0] 171)) ms wr.heap.size c 0 := by
  refine ⟨range_below h.1 (alloc_below _ _) h.2.2, below_trans h.2.1 (alloc_below _ _), ⟨h.2.2, by simp⟩, fun j hj => by simp [go_sem], fun j hj => ?_, fun j hj => ?_⟩
  · rw [World.cell?_alloc_new wr _ 171 j]
    exact ⟨_, Array.getElem?_eq_getElem (by simpa using hj)⟩
  · unfold cntO at hj; rw [if_neg (by omega)] at hj; omega
theorem mi_skip {w wx : World} {ms : List Nat} {d c : Nat} (h : MI w wx ms d c c) : MI w wx ms d c (c + 1) :=
  ⟨h.a, h.b, h.lt, h.f, h.cl, fun j hj => h.o j (by unfold cntO at *; rw [if_pos (by omega)] at hj; rw [if_neg (by omega)]; omega)⟩
theorem mi_step {w wx : World} {ms : List Nat} {d c x : Nat} (h : MI w wx ms d c x) (hx : x ≠ c) (hx4 : x < 4) (hc : c < 4) : MI w (wx.setCell ⟨d, cntO c x, none⟩ (.int .i64 (x : Nat))) ms d c (x + 1) := by
  have hb : Below d wx (wx.setCell ⟨d, cntO c x, none⟩ (.int .i64 (x : Nat))) := (Below.refl _ wx).setCell (p := ⟨d, cntO c x, none⟩) (Nat.le_refl _) _
  have hc1 : cntO c (x + 1) = cntO c x + 1 := by unfold cntO; split <;> split <;> omega
  have ho : oth c (cntO c x) = x := by unfold oth cntO; split <;> split <;> omega
  have h3 : cntO c x < 3 := by unfold cntO; split <;> omega
  obtain ⟨v, hv⟩ := h.cl _ h3
  have hother : ∀ j, j ≠ cntO c x → (wx.setCell ⟨d, cntO c x, none⟩ (.int .i64 (x : Nat))).cell? ⟨d, j, none⟩ = wx.cell? ⟨d, j, none⟩ := fun j hj => World.cell?_setCell_other _ _ _ _ (fun e => hj (by injection e with _ e; exact e.symm))
  refine ⟨range_below h.a hb h.lt.1, h.b.setCell (by have := h.lt.1; simp; omega) _, ⟨h.lt.1, by rw [World.size_setCell]; exact h.lt.2⟩, fun j hj => (World.frozen?_setCell ..).trans (h.f j hj), fun j hj => ?_, fun j hj => ?_⟩
  · by_cases e : j = cntO c x
    · subst e; exact ⟨_, World.cell?_setCell_same _ _ _ hv⟩
    · rw [hother j e]; exact h.cl j hj
  · by_cases e : j = cntO c x
    · subst e; rw [ho]; exact World.cell?_setCell_same _ _ _ hv
    · rw [hother j e]; exact h.o j (by rw [hc1] at hj; omega)
/-- what the closure answers -/
def G174 (z : Nat → Int) (b : Nat) (_f : FuncId) (args : Array Value) (v : Value) : Prop := ∀ c i : Nat, c < 4 ∨ True → i < 4 → args = #[.int .i64 c, .int .i64 (i : Nat), .pointer (some ⟨b, 0, none⟩)] → v = .int .i64 (nZ z c i)
theorem g174 {ms : List Nat} {z : Nat → Int} {B : Nat} (h : IM ms z B) (hB : B ≤ 1024) (b c i : Nat) (hc : c < 4) (hi : i < 4) {wr : World} (w : World) (hw : ∃ nn, w = wr.drewN nn) (hr : wr.rangeAt b 0 (ms.map (Value.float .f64))) (I : Int) (hI : I = (i : Int)) :
    Calls Try.prog 174 #[.int .i64 c, .int .i64 I, .pointer (some ⟨b, 0, none⟩)] w fun e w' => ∃ v, e = .returned v ∧ G174 z b 174 #[.int .i64 c, .int .i64 I, .pointer (some ⟨b, 0, none⟩)] v ∧ ∃ nn, w' = wr.drewN nn := by
  subst hI
  obtain ⟨nn, rfl⟩ := hw
  refine (k174 h (by omega) b c i hc hi (wr.drewN nn) (fun j v hj => hr j v hj)).mono fun e w' ⟨he, hw'⟩ => ⟨_, he, fun c' i' _ _ ha => ?_, nn, hw'.symm⟩
  injection ha with ha
  injection ha with h1 ha
  injection ha with h2 _
  injection h1 with _ h1
  injection h2 with _ h2
  have e1 : c = c' := by omega
  have e2 : i = i' := by omega
  subst e1; subst e2; rfl
/-- an entry, in a region that only reads -/
theorem q174 {ms : List Nat} {z : Nat → Int} {B : Nat} (h : IM ms z B) (hB : B ≤ 1024) (b c i : Nat) (hc : c < 4) (hi : i < 4) (w : World) (hr : w.rangeAt b 0 (ms.map (Value.float .f64))) (I : Int) (hI : I = (i : Int)) :
    Calls Try.prog 174 #[.int .i64 c, .int .i64 I, .pointer (some ⟨b, 0, none⟩)] w fun e w' => e = .returned (.int .i64 (z (4 * c + i))) ∧ w' = w := by
  rw [hI]
  exact (k174 h (by omega) b c i hc hi w hr).mono fun _ _ ⟨x, y⟩ => ⟨x, y.symm⟩
set_option maxRecDepth 100000 in
set_option maxHeartbeats 4000000 in
theorem k125 {ms : List Nat} {z : Nat → Int} {B : Nat} (h : IM ms z B) (hB : B ≤ 1024) (w : World) :
    Calls Try.prog 125 #[.agg (ms.map (Value.float .f64)).toArray] w fun e w' => e = .returned (.int .i64 (detZ z)) ∧ Below w.heap.size w w' := by
  have HI := Lib.hid h
  have W0 := Lib.hid (show (w.alloc (.cells (ms.map (Value.float .f64)).toArray 80)).rangeAt w.heap.size 0 (ms.map (Value.float .f64)) ∧ Below w.heap.size w (w.alloc (.cells (ms.map (Value.float .f64)).toArray 80)) ∧ w.heap.size < (w.alloc (.cells (ms.map (Value.float .f64)).toArray 80)).heap.size from ⟨range_new w _ 80, alloc_below _ _, by simp⟩)
  clear h
  go_enter Try.func125, Try.ntmps125
  go_wp2_with fail
  go_loopw [4, 5] (fun s ii wx => ∃ c : Nat, ii = .int .i64 (c : Nat) ∧ s = .int .i64 (dsum z c) ∧ Hid (c ≤ 4) ∧ Hid (wx.rangeAt w.heap.size 0 (ms.map (Value.float .f64)) ∧ Below w.heap.size w wx ∧ w.heap.size < wx.heap.size)) (fun _ ii _ => 4 - (intOf ii).toNat)
  case atStart => exact ⟨0, rfl, rfl, Lib.hid (by omega), W0⟩
  case round =>
    obtain ⟨c, rfl, rfl, hc, hI⟩ := hrel
    clear W0
    by_cases hlt : c < 4
    · have hki : (c : Int) < 4 := by omega
      have hk0 : (0 : Int) ≤ (c : Int) := by omega
      have HLT := Lib.hid hlt
      clear hlt
      have M0 := Lib.hid (mi_start hI.out c)
      go_upto_region 7 with fail
      refine wp_gen (fun wx => Hid (MI w wx ms wr.heap.size c 0)) M0 ?_
      clear M0 hI
      intro wa hM
      generalize wr.heap.size = d at *
      go_wp2_with fail
      go_loopw [7, 8] (fun kk xx wx => ∃ x : Nat, xx = .int .i64 (x : Nat) ∧ kk = .int .i64 (cntO c x : Nat) ∧ Hid (x ≤ 4) ∧ Hid (MI w wx ms d c x)) (fun _ xx _ => 4 - (intOf xx).toNat)
      case atStart => exact ⟨0, rfl, by rw [show cntO c 0 = 0 by unfold cntO; rw [if_neg (by omega)]]; rfl, Lib.hid (by omega), hM⟩
      case round =>
        obtain ⟨x, rfl, rfl, hx, hX⟩ := hrel
        clear hM
        by_cases hlx : x < 4
        · have hxi : (x : Int) < 4 := by omega
          have hx0 : (0 : Int) ≤ (x : Int) := by omega
          have HLX := Lib.hid hlx
          by_cases hxc : x = c
          · subst hxc
            have M2 := Lib.hid (mi_skip hX.out)
            have E1 := Lib.hid (show cntO x (x + 1) = cntO x x by unfold cntO; rw [if_pos (by omega), if_neg (by omega)]; omega)
            clear hlx hX
            go_wp2_with fail
            go_roundw
            case rel => exact ⟨x + 1, by go_num, by rw [E1.out], Lib.hid (by have := HLX.out; omega), M2⟩
            case measure => have := HLX.out; simp [intOf]; omega
          · have M2 := Lib.hid (mi_step hX.out hxc hlx (by have := HLT.out; omega))
            have E1 := Lib.hid (show cntO c (x + 1) = cntO c x + 1 by unfold cntO; split <;> split <;> omega)
            have h3 : cntO c x < 3 := by have := HLT.out; unfold cntO; split <;> omega
            obtain ⟨v, kd⟩ := hX.out.cl _ h3
            have kf := hX.out.f _ h3
            have g1 : (0 : Int) ≤ (cntO c x : Int) := by omega
            have g2 : (cntO c x : Int) < 3 := by omega
            have q : ((x : Int) != (c : Int)) = true := by simp; omega
            clear hlx hX hxc h3
            generalize cntO c x = k at *
            go_wp2_with fail
            go_roundw
            case rel => exact ⟨x + 1, by go_num, by rw [E1.out]; go_num, Lib.hid (by have := HLX.out; omega), M2⟩
            case measure => have := HLX.out; simp [intOf]; omega
        · have hxi : ¬ (x : Int) < 4 := by omega
          have h4 : x = 4 := by have := hx.out; omega
          subst h4
          have o0 := hX.out.o 0 (by have := HLT.out; unfold cntO; rw [if_pos this]; omega)
          have o1 := hX.out.o 1 (by have := HLT.out; unfold cntO; rw [if_pos this]; omega)
          have o2 := hX.out.o 2 (by have := HLT.out; unfold cntO; rw [if_pos this]; omega)
          have HO := Lib.hid (show ∀ j, j < 3 → oth c j < 4 from fun j hj => by unfold oth; split <;> omega)
          have RA := Lib.hid hX.out.a
          have HK := Lib.hid (And.intro o0 (And.intro o1 o2))
          have hbd : ∀ j, j < 16 → (z j).natAbs ≤ 1024 := fun j hj => by have := (HI.out.at_ j hj).le; omega
          have h4 : ∀ x i, x < 3 → i < 4 → (nZ z (oth c x) i).natAbs ≤ 1024 := fun x i hx hi => hbd _ (by have := HO.out x hx; omega)
          have WM := Lib.hid (wmin (nZ z (oth c 0) 1) (nZ z (oth c 1) 1) (nZ z (oth c 2) 1) (nZ z (oth c 0) 2) (nZ z (oth c 1) 2) (nZ z (oth c 2) 2) (nZ z (oth c 0) 3) (nZ z (oth c 1) 3) (nZ z (oth c 2) 3) (h4 0 1 (by omega) (by omega)) (h4 1 1 (by omega) (by omega)) (h4 2 1 (by omega) (by omega)) (h4 0 2 (by omega) (by omega)) (h4 1 2 (by omega) (by omega)) (h4 2 2 (by omega) (by omega)) (h4 0 3 (by omega) (by omega)) (h4 1 3 (by omega) (by omega)) (h4 2 3 (by omega) (by omega)))
          clear hbd h4
          go_upto_region 14 with fail
          go_cut [9] (fun v wx => v = .int .i64 (minZ z c) ∧ Hid (∃ nn, wx = wr.drewN nn))
          case first =>
            refine wp_region_rel 75 (fun w' => ∃ nn, w' = wr.drewN nn) (G174 z w.heap.size) (by kernel_rfl) (by kernel_rfl) ⟨1, rfl⟩ ?_
            simp only [List.append_eq, List.cons_append, List.nil_append, List.take_succ_cons, List.take_zero, List.drop_succ_cons, List.drop_zero]
            refine rel_move (v := .func (.func 174) #[] #[.pointer (some ⟨w.heap.size, 0, none⟩)]) rfl rfl ?_
            simp only [Act.put, List.setIfInBounds_toArray, List.set_cons_succ, List.set_cons_zero]
            refine rel_val (v := .pointer (some ⟨d, 0, none⟩)) rfl (fun w' hw => by go_simp) ?_
            simp only [Act.put, List.setIfInBounds_toArray, List.set_cons_succ, List.set_cons_zero]
            refine rel_val (v := .int .i64 (oth c 0 : Nat)) rfl (fun w' hw => by have k := HK.out.1; obtain ⟨nn, rfl⟩ := hw; have k : (wr.drewN nn).cell? ⟨d, 0, none⟩ = _ := k; go_simp) ?_
            simp only [Act.put, List.setIfInBounds_toArray, List.set_cons_succ, List.set_cons_zero]
            refine rel_call (f := 174) (args := #[.int .i64 (oth c 0 : Nat), .int .i64 1, .pointer (some ⟨w.heap.size, 0, none⟩)]) rfl (fun w' hw => by go_simp) (fun w' hw => g174 HI.out hB w.heap.size (oth c 0) 1 (HO.out 0 (by omega)) (by omega) w' hw RA.out 1 rfl) (fun v hv => ?_)
            obtain rfl : v = .int .i64 (nZ z (oth c 0) 1) := hv (oth c 0) 1 (.inr trivial) (by omega) rfl
            simp only [Act.put, List.setIfInBounds_toArray, List.set_cons_succ, List.set_cons_zero]
            refine rel_move (v := .func (.func 174) #[] #[.pointer (some ⟨w.heap.size, 0, none⟩)]) rfl rfl ?_
            simp only [Act.put, List.setIfInBounds_toArray, List.set_cons_succ, List.set_cons_zero]
            refine rel_val (v := .pointer (some ⟨d, 1, none⟩)) rfl (fun w' hw => by go_simp) ?_
            simp only [Act.put, List.setIfInBounds_toArray, List.set_cons_succ, List.set_cons_zero]
            refine rel_val (v := .int .i64 (oth c 1 : Nat)) rfl (fun w' hw => by have k := HK.out.2.1; obtain ⟨nn, rfl⟩ := hw; have k : (wr.drewN nn).cell? ⟨d, 1, none⟩ = _ := k; go_simp) ?_
            simp only [Act.put, List.setIfInBounds_toArray, List.set_cons_succ, List.set_cons_zero]
            refine rel_call (f := 174) (args := #[.int .i64 (oth c 1 : Nat), .int .i64 2, .pointer (some ⟨w.heap.size, 0, none⟩)]) rfl (fun w' hw => by go_simp) (fun w' hw => g174 HI.out hB w.heap.size (oth c 1) 2 (HO.out 1 (by omega)) (by omega) w' hw RA.out 2 rfl) (fun v hv => ?_)
            obtain rfl : v = .int .i64 (nZ z (oth c 1) 2) := hv (oth c 1) 2 (.inr trivial) (by omega) rfl
            simp only [Act.put, List.setIfInBounds_toArray, List.set_cons_succ, List.set_cons_zero]
            refine rel_move (v := .func (.func 174) #[] #[.pointer (some ⟨w.heap.size, 0, none⟩)]) rfl rfl ?_
            simp only [Act.put, List.setIfInBounds_toArray, List.set_cons_succ, List.set_cons_zero]
            refine rel_val (v := .pointer (some ⟨d, 2, none⟩)) rfl (fun w' hw => by go_simp) ?_
            simp only [Act.put, List.setIfInBounds_toArray, List.set_cons_succ, List.set_cons_zero]
            refine rel_val (v := .int .i64 (oth c 2 : Nat)) rfl (fun w' hw => by have k := HK.out.2.2; obtain ⟨nn, rfl⟩ := hw; have k : (wr.drewN nn).cell? ⟨d, 2, none⟩ = _ := k; go_simp) ?_
            simp only [Act.put, List.setIfInBounds_toArray, List.set_cons_succ, List.set_cons_zero]
            refine rel_call (f := 174) (args := #[.int .i64 (oth c 2 : Nat), .int .i64 3, .pointer (some ⟨w.heap.size, 0, none⟩)]) rfl (fun w' hw => by go_simp) (fun w' hw => g174 HI.out hB w.heap.size (oth c 2) 3 (HO.out 2 (by omega)) (by omega) w' hw RA.out 3 rfl) (fun v hv => ?_)
            obtain rfl : v = .int .i64 (nZ z (oth c 2) 3) := hv (oth c 2) 3 (.inr trivial) (by omega) rfl
            simp only [Act.put, List.setIfInBounds_toArray, List.set_cons_succ, List.set_cons_zero]
            refine rel_val (v := .int .i64 (IntKind.i64.wrap (nZ z (oth c 1) 2 * nZ z (oth c 2) 3))) rfl (fun w' hw => by go_simp) ?_
            simp only [Act.put, List.setIfInBounds_toArray, List.set_cons_succ, List.set_cons_zero]
            refine rel_move (v := .func (.func 174) #[] #[.pointer (some ⟨w.heap.size, 0, none⟩)]) rfl rfl ?_
            simp only [Act.put, List.setIfInBounds_toArray, List.set_cons_succ, List.set_cons_zero]
            refine rel_val (v := .pointer (some ⟨d, 2, none⟩)) rfl (fun w' hw => by go_simp) ?_
            simp only [Act.put, List.setIfInBounds_toArray, List.set_cons_succ, List.set_cons_zero]
            refine rel_val (v := .int .i64 (oth c 2 : Nat)) rfl (fun w' hw => by have k := HK.out.2.2; obtain ⟨nn, rfl⟩ := hw; have k : (wr.drewN nn).cell? ⟨d, 2, none⟩ = _ := k; go_simp) ?_
            simp only [Act.put, List.setIfInBounds_toArray, List.set_cons_succ, List.set_cons_zero]
            refine rel_call (f := 174) (args := #[.int .i64 (oth c 2 : Nat), .int .i64 2, .pointer (some ⟨w.heap.size, 0, none⟩)]) rfl (fun w' hw => by go_simp) (fun w' hw => g174 HI.out hB w.heap.size (oth c 2) 2 (HO.out 2 (by omega)) (by omega) w' hw RA.out 2 rfl) (fun v hv => ?_)
            obtain rfl : v = .int .i64 (nZ z (oth c 2) 2) := hv (oth c 2) 2 (.inr trivial) (by omega) rfl
            simp only [Act.put, List.setIfInBounds_toArray, List.set_cons_succ, List.set_cons_zero]
            refine rel_move (v := .func (.func 174) #[] #[.pointer (some ⟨w.heap.size, 0, none⟩)]) rfl rfl ?_
            simp only [Act.put, List.setIfInBounds_toArray, List.set_cons_succ, List.set_cons_zero]
            refine rel_val (v := .pointer (some ⟨d, 1, none⟩)) rfl (fun w' hw => by go_simp) ?_
            simp only [Act.put, List.setIfInBounds_toArray, List.set_cons_succ, List.set_cons_zero]
            refine rel_val (v := .int .i64 (oth c 1 : Nat)) rfl (fun w' hw => by have k := HK.out.2.1; obtain ⟨nn, rfl⟩ := hw; have k : (wr.drewN nn).cell? ⟨d, 1, none⟩ = _ := k; go_simp) ?_
            simp only [Act.put, List.setIfInBounds_toArray, List.set_cons_succ, List.set_cons_zero]
            refine rel_call (f := 174) (args := #[.int .i64 (oth c 1 : Nat), .int .i64 3, .pointer (some ⟨w.heap.size, 0, none⟩)]) rfl (fun w' hw => by go_simp) (fun w' hw => g174 HI.out hB w.heap.size (oth c 1) 3 (HO.out 1 (by omega)) (by omega) w' hw RA.out 3 rfl) (fun v hv => ?_)
            obtain rfl : v = .int .i64 (nZ z (oth c 1) 3) := hv (oth c 1) 3 (.inr trivial) (by omega) rfl
            simp only [Act.put, List.setIfInBounds_toArray, List.set_cons_succ, List.set_cons_zero]
            refine rel_val (v := .int .i64 (IntKind.i64.wrap (nZ z (oth c 2) 2 * nZ z (oth c 1) 3))) rfl (fun w' hw => by go_simp) ?_
            simp only [Act.put, List.setIfInBounds_toArray, List.set_cons_succ, List.set_cons_zero]
            refine rel_val (v := .int .i64 (IntKind.i64.wrap (IntKind.i64.wrap (nZ z (oth c 1) 2 * nZ z (oth c 2) 3) - IntKind.i64.wrap (nZ z (oth c 2) 2 * nZ z (oth c 1) 3)))) rfl (fun w' hw => by go_simp) ?_
            simp only [Act.put, List.setIfInBounds_toArray, List.set_cons_succ, List.set_cons_zero]
            refine rel_val (v := .int .i64 (IntKind.i64.wrap (nZ z (oth c 0) 1 * IntKind.i64.wrap (IntKind.i64.wrap (nZ z (oth c 1) 2 * nZ z (oth c 2) 3) - IntKind.i64.wrap (nZ z (oth c 2) 2 * nZ z (oth c 1) 3))))) rfl (fun w' hw => by go_simp) ?_
            simp only [Act.put, List.setIfInBounds_toArray, List.set_cons_succ, List.set_cons_zero]
            refine rel_move (v := .func (.func 174) #[] #[.pointer (some ⟨w.heap.size, 0, none⟩)]) rfl rfl ?_
            simp only [Act.put, List.setIfInBounds_toArray, List.set_cons_succ, List.set_cons_zero]
            refine rel_val (v := .pointer (some ⟨d, 1, none⟩)) rfl (fun w' hw => by go_simp) ?_
            simp only [Act.put, List.setIfInBounds_toArray, List.set_cons_succ, List.set_cons_zero]
            refine rel_val (v := .int .i64 (oth c 1 : Nat)) rfl (fun w' hw => by have k := HK.out.2.1; obtain ⟨nn, rfl⟩ := hw; have k : (wr.drewN nn).cell? ⟨d, 1, none⟩ = _ := k; go_simp) ?_
            simp only [Act.put, List.setIfInBounds_toArray, List.set_cons_succ, List.set_cons_zero]
            refine rel_call (f := 174) (args := #[.int .i64 (oth c 1 : Nat), .int .i64 1, .pointer (some ⟨w.heap.size, 0, none⟩)]) rfl (fun w' hw => by go_simp) (fun w' hw => g174 HI.out hB w.heap.size (oth c 1) 1 (HO.out 1 (by omega)) (by omega) w' hw RA.out 1 rfl) (fun v hv => ?_)
            obtain rfl : v = .int .i64 (nZ z (oth c 1) 1) := hv (oth c 1) 1 (.inr trivial) (by omega) rfl
            simp only [Act.put, List.setIfInBounds_toArray, List.set_cons_succ, List.set_cons_zero]
            refine rel_move (v := .func (.func 174) #[] #[.pointer (some ⟨w.heap.size, 0, none⟩)]) rfl rfl ?_
            simp only [Act.put, List.setIfInBounds_toArray, List.set_cons_succ, List.set_cons_zero]
            refine rel_val (v := .pointer (some ⟨d, 0, none⟩)) rfl (fun w' hw => by go_simp) ?_
            simp only [Act.put, List.setIfInBounds_toArray, List.set_cons_succ, List.set_cons_zero]
            refine rel_val (v := .int .i64 (oth c 0 : Nat)) rfl (fun w' hw => by have k := HK.out.1; obtain ⟨nn, rfl⟩ := hw; have k : (wr.drewN nn).cell? ⟨d, 0, none⟩ = _ := k; go_simp) ?_
            simp only [Act.put, List.setIfInBounds_toArray, List.set_cons_succ, List.set_cons_zero]
            refine rel_call (f := 174) (args := #[.int .i64 (oth c 0 : Nat), .int .i64 2, .pointer (some ⟨w.heap.size, 0, none⟩)]) rfl (fun w' hw => by go_simp) (fun w' hw => g174 HI.out hB w.heap.size (oth c 0) 2 (HO.out 0 (by omega)) (by omega) w' hw RA.out 2 rfl) (fun v hv => ?_)
            obtain rfl : v = .int .i64 (nZ z (oth c 0) 2) := hv (oth c 0) 2 (.inr trivial) (by omega) rfl
            simp only [Act.put, List.setIfInBounds_toArray, List.set_cons_succ, List.set_cons_zero]
            refine rel_move (v := .func (.func 174) #[] #[.pointer (some ⟨w.heap.size, 0, none⟩)]) rfl rfl ?_
            simp only [Act.put, List.setIfInBounds_toArray, List.set_cons_succ, List.set_cons_zero]
            refine rel_val (v := .pointer (some ⟨d, 2, none⟩)) rfl (fun w' hw => by go_simp) ?_
            simp only [Act.put, List.setIfInBounds_toArray, List.set_cons_succ, List.set_cons_zero]
            refine rel_val (v := .int .i64 (oth c 2 : Nat)) rfl (fun w' hw => by have k := HK.out.2.2; obtain ⟨nn, rfl⟩ := hw; have k : (wr.drewN nn).cell? ⟨d, 2, none⟩ = _ := k; go_simp) ?_
            simp only [Act.put, List.setIfInBounds_toArray, List.set_cons_succ, List.set_cons_zero]
            refine rel_call (f := 174) (args := #[.int .i64 (oth c 2 : Nat), .int .i64 3, .pointer (some ⟨w.heap.size, 0, none⟩)]) rfl (fun w' hw => by go_simp) (fun w' hw => g174 HI.out hB w.heap.size (oth c 2) 3 (HO.out 2 (by omega)) (by omega) w' hw RA.out 3 rfl) (fun v hv => ?_)
            obtain rfl : v = .int .i64 (nZ z (oth c 2) 3) := hv (oth c 2) 3 (.inr trivial) (by omega) rfl
            simp only [Act.put, List.setIfInBounds_toArray, List.set_cons_succ, List.set_cons_zero]
            refine rel_val (v := .int .i64 (IntKind.i64.wrap (nZ z (oth c 0) 2 * nZ z (oth c 2) 3))) rfl (fun w' hw => by go_simp) ?_
            simp only [Act.put, List.setIfInBounds_toArray, List.set_cons_succ, List.set_cons_zero]
            refine rel_move (v := .func (.func 174) #[] #[.pointer (some ⟨w.heap.size, 0, none⟩)]) rfl rfl ?_
            simp only [Act.put, List.setIfInBounds_toArray, List.set_cons_succ, List.set_cons_zero]
            refine rel_val (v := .pointer (some ⟨d, 2, none⟩)) rfl (fun w' hw => by go_simp) ?_
            simp only [Act.put, List.setIfInBounds_toArray, List.set_cons_succ, List.set_cons_zero]
            refine rel_val (v := .int .i64 (oth c 2 : Nat)) rfl (fun w' hw => by have k := HK.out.2.2; obtain ⟨nn, rfl⟩ := hw; have k : (wr.drewN nn).cell? ⟨d, 2, none⟩ = _ := k; go_simp) ?_
            simp only [Act.put, List.setIfInBounds_toArray, List.set_cons_succ, List.set_cons_zero]
            refine rel_call (f := 174) (args := #[.int .i64 (oth c 2 : Nat), .int .i64 2, .pointer (some ⟨w.heap.size, 0, none⟩)]) rfl (fun w' hw => by go_simp) (fun w' hw => g174 HI.out hB w.heap.size (oth c 2) 2 (HO.out 2 (by omega)) (by omega) w' hw RA.out 2 rfl) (fun v hv => ?_)
            obtain rfl : v = .int .i64 (nZ z (oth c 2) 2) := hv (oth c 2) 2 (.inr trivial) (by omega) rfl
            simp only [Act.put, List.setIfInBounds_toArray, List.set_cons_succ, List.set_cons_zero]
            refine rel_move (v := .func (.func 174) #[] #[.pointer (some ⟨w.heap.size, 0, none⟩)]) rfl rfl ?_
            simp only [Act.put, List.setIfInBounds_toArray, List.set_cons_succ, List.set_cons_zero]
            refine rel_val (v := .pointer (some ⟨d, 0, none⟩)) rfl (fun w' hw => by go_simp) ?_
            simp only [Act.put, List.setIfInBounds_toArray, List.set_cons_succ, List.set_cons_zero]
            refine rel_val (v := .int .i64 (oth c 0 : Nat)) rfl (fun w' hw => by have k := HK.out.1; obtain ⟨nn, rfl⟩ := hw; have k : (wr.drewN nn).cell? ⟨d, 0, none⟩ = _ := k; go_simp) ?_
            simp only [Act.put, List.setIfInBounds_toArray, List.set_cons_succ, List.set_cons_zero]
            refine rel_call (f := 174) (args := #[.int .i64 (oth c 0 : Nat), .int .i64 3, .pointer (some ⟨w.heap.size, 0, none⟩)]) rfl (fun w' hw => by go_simp) (fun w' hw => g174 HI.out hB w.heap.size (oth c 0) 3 (HO.out 0 (by omega)) (by omega) w' hw RA.out 3 rfl) (fun v hv => ?_)
            obtain rfl : v = .int .i64 (nZ z (oth c 0) 3) := hv (oth c 0) 3 (.inr trivial) (by omega) rfl
            simp only [Act.put, List.setIfInBounds_toArray, List.set_cons_succ, List.set_cons_zero]
            refine rel_val (v := .int .i64 (IntKind.i64.wrap (nZ z (oth c 2) 2 * nZ z (oth c 0) 3))) rfl (fun w' hw => by go_simp) ?_
            simp only [Act.put, List.setIfInBounds_toArray, List.set_cons_succ, List.set_cons_zero]
            refine rel_val (v := .int .i64 (IntKind.i64.wrap (IntKind.i64.wrap (nZ z (oth c 0) 2 * nZ z (oth c 2) 3) - IntKind.i64.wrap (nZ z (oth c 2) 2 * nZ z (oth c 0) 3)))) rfl (fun w' hw => by go_simp) ?_
            simp only [Act.put, List.setIfInBounds_toArray, List.set_cons_succ, List.set_cons_zero]
            refine rel_val (v := .int .i64 (IntKind.i64.wrap (nZ z (oth c 1) 1 * IntKind.i64.wrap (IntKind.i64.wrap (nZ z (oth c 0) 2 * nZ z (oth c 2) 3) - IntKind.i64.wrap (nZ z (oth c 2) 2 * nZ z (oth c 0) 3))))) rfl (fun w' hw => by go_simp) ?_
            simp only [Act.put, List.setIfInBounds_toArray, List.set_cons_succ, List.set_cons_zero]
            refine rel_val (v := .int .i64 (IntKind.i64.wrap (IntKind.i64.wrap (nZ z (oth c 0) 1 * IntKind.i64.wrap (IntKind.i64.wrap (nZ z (oth c 1) 2 * nZ z (oth c 2) 3) - IntKind.i64.wrap (nZ z (oth c 2) 2 * nZ z (oth c 1) 3))) - IntKind.i64.wrap (nZ z (oth c 1) 1 * IntKind.i64.wrap (IntKind.i64.wrap (nZ z (oth c 0) 2 * nZ z (oth c 2) 3) - IntKind.i64.wrap (nZ z (oth c 2) 2 * nZ z (oth c 0) 3)))))) rfl (fun w' hw => by go_simp) ?_
            simp only [Act.put, List.setIfInBounds_toArray, List.set_cons_succ, List.set_cons_zero]
            refine rel_move (v := .func (.func 174) #[] #[.pointer (some ⟨w.heap.size, 0, none⟩)]) rfl rfl ?_
            simp only [Act.put, List.setIfInBounds_toArray, List.set_cons_succ, List.set_cons_zero]
            refine rel_val (v := .pointer (some ⟨d, 2, none⟩)) rfl (fun w' hw => by go_simp) ?_
            simp only [Act.put, List.setIfInBounds_toArray, List.set_cons_succ, List.set_cons_zero]
            refine rel_val (v := .int .i64 (oth c 2 : Nat)) rfl (fun w' hw => by have k := HK.out.2.2; obtain ⟨nn, rfl⟩ := hw; have k : (wr.drewN nn).cell? ⟨d, 2, none⟩ = _ := k; go_simp) ?_
            simp only [Act.put, List.setIfInBounds_toArray, List.set_cons_succ, List.set_cons_zero]
            refine rel_call (f := 174) (args := #[.int .i64 (oth c 2 : Nat), .int .i64 1, .pointer (some ⟨w.heap.size, 0, none⟩)]) rfl (fun w' hw => by go_simp) (fun w' hw => g174 HI.out hB w.heap.size (oth c 2) 1 (HO.out 2 (by omega)) (by omega) w' hw RA.out 1 rfl) (fun v hv => ?_)
            obtain rfl : v = .int .i64 (nZ z (oth c 2) 1) := hv (oth c 2) 1 (.inr trivial) (by omega) rfl
            simp only [Act.put, List.setIfInBounds_toArray, List.set_cons_succ, List.set_cons_zero]
            refine rel_move (v := .func (.func 174) #[] #[.pointer (some ⟨w.heap.size, 0, none⟩)]) rfl rfl ?_
            simp only [Act.put, List.setIfInBounds_toArray, List.set_cons_succ, List.set_cons_zero]
            refine rel_val (v := .pointer (some ⟨d, 0, none⟩)) rfl (fun w' hw => by go_simp) ?_
            simp only [Act.put, List.setIfInBounds_toArray, List.set_cons_succ, List.set_cons_zero]
            refine rel_val (v := .int .i64 (oth c 0 : Nat)) rfl (fun w' hw => by have k := HK.out.1; obtain ⟨nn, rfl⟩ := hw; have k : (wr.drewN nn).cell? ⟨d, 0, none⟩ = _ := k; go_simp) ?_
            simp only [Act.put, List.setIfInBounds_toArray, List.set_cons_succ, List.set_cons_zero]
            refine rel_call (f := 174) (args := #[.int .i64 (oth c 0 : Nat), .int .i64 2, .pointer (some ⟨w.heap.size, 0, none⟩)]) rfl (fun w' hw => by go_simp) (fun w' hw => g174 HI.out hB w.heap.size (oth c 0) 2 (HO.out 0 (by omega)) (by omega) w' hw RA.out 2 rfl) (fun v hv => ?_)
            obtain rfl : v = .int .i64 (nZ z (oth c 0) 2) := hv (oth c 0) 2 (.inr trivial) (by omega) rfl
            simp only [Act.put, List.setIfInBounds_toArray, List.set_cons_succ, List.set_cons_zero]
            refine rel_move (v := .func (.func 174) #[] #[.pointer (some ⟨w.heap.size, 0, none⟩)]) rfl rfl ?_
            simp only [Act.put, List.setIfInBounds_toArray, List.set_cons_succ, List.set_cons_zero]
            refine rel_val (v := .pointer (some ⟨d, 1, none⟩)) rfl (fun w' hw => by go_simp) ?_
            simp only [Act.put, List.setIfInBounds_toArray, List.set_cons_succ, List.set_cons_zero]
            refine rel_val (v := .int .i64 (oth c 1 : Nat)) rfl (fun w' hw => by have k := HK.out.2.1; obtain ⟨nn, rfl⟩ := hw; have k : (wr.drewN nn).cell? ⟨d, 1, none⟩ = _ := k; go_simp) ?_
            simp only [Act.put, List.setIfInBounds_toArray, List.set_cons_succ, List.set_cons_zero]
            refine rel_call (f := 174) (args := #[.int .i64 (oth c 1 : Nat), .int .i64 3, .pointer (some ⟨w.heap.size, 0, none⟩)]) rfl (fun w' hw => by go_simp) (fun w' hw => g174 HI.out hB w.heap.size (oth c 1) 3 (HO.out 1 (by omega)) (by omega) w' hw RA.out 3 rfl) (fun v hv => ?_)
            obtain rfl : v = .int .i64 (nZ z (oth c 1) 3) := hv (oth c 1) 3 (.inr trivial) (by omega) rfl
            simp only [Act.put, List.setIfInBounds_toArray, List.set_cons_succ, List.set_cons_zero]
            refine rel_val (v := .int .i64 (IntKind.i64.wrap (nZ z (oth c 0) 2 * nZ z (oth c 1) 3))) rfl (fun w' hw => by go_simp) ?_
            simp only [Act.put, List.setIfInBounds_toArray, List.set_cons_succ, List.set_cons_zero]
            refine rel_move (v := .func (.func 174) #[] #[.pointer (some ⟨w.heap.size, 0, none⟩)]) rfl rfl ?_
            simp only [Act.put, List.setIfInBounds_toArray, List.set_cons_succ, List.set_cons_zero]
            refine rel_val (v := .pointer (some ⟨d, 1, none⟩)) rfl (fun w' hw => by go_simp) ?_
            simp only [Act.put, List.setIfInBounds_toArray, List.set_cons_succ, List.set_cons_zero]
            refine rel_val (v := .int .i64 (oth c 1 : Nat)) rfl (fun w' hw => by have k := HK.out.2.1; obtain ⟨nn, rfl⟩ := hw; have k : (wr.drewN nn).cell? ⟨d, 1, none⟩ = _ := k; go_simp) ?_
            simp only [Act.put, List.setIfInBounds_toArray, List.set_cons_succ, List.set_cons_zero]
            refine rel_call (f := 174) (args := #[.int .i64 (oth c 1 : Nat), .int .i64 2, .pointer (some ⟨w.heap.size, 0, none⟩)]) rfl (fun w' hw => by go_simp) (fun w' hw => g174 HI.out hB w.heap.size (oth c 1) 2 (HO.out 1 (by omega)) (by omega) w' hw RA.out 2 rfl) (fun v hv => ?_)
            obtain rfl : v = .int .i64 (nZ z (oth c 1) 2) := hv (oth c 1) 2 (.inr trivial) (by omega) rfl
            simp only [Act.put, List.setIfInBounds_toArray, List.set_cons_succ, List.set_cons_zero]
            refine rel_move (v := .func (.func 174) #[] #[.pointer (some ⟨w.heap.size, 0, none⟩)]) rfl rfl ?_
            simp only [Act.put, List.setIfInBounds_toArray, List.set_cons_succ, List.set_cons_zero]
            refine rel_val (v := .pointer (some ⟨d, 0, none⟩)) rfl (fun w' hw => by go_simp) ?_
            simp only [Act.put, List.setIfInBounds_toArray, List.set_cons_succ, List.set_cons_zero]
            refine rel_val (v := .int .i64 (oth c 0 : Nat)) rfl (fun w' hw => by have k := HK.out.1; obtain ⟨nn, rfl⟩ := hw; have k : (wr.drewN nn).cell? ⟨d, 0, none⟩ = _ := k; go_simp) ?_
            simp only [Act.put, List.setIfInBounds_toArray, List.set_cons_succ, List.set_cons_zero]
            refine rel_call (f := 174) (args := #[.int .i64 (oth c 0 : Nat), .int .i64 3, .pointer (some ⟨w.heap.size, 0, none⟩)]) rfl (fun w' hw => by go_simp) (fun w' hw => g174 HI.out hB w.heap.size (oth c 0) 3 (HO.out 0 (by omega)) (by omega) w' hw RA.out 3 rfl) (fun v hv => ?_)
            obtain rfl : v = .int .i64 (nZ z (oth c 0) 3) := hv (oth c 0) 3 (.inr trivial) (by omega) rfl
            simp only [Act.put, List.setIfInBounds_toArray, List.set_cons_succ, List.set_cons_zero]
            refine rel_val (v := .int .i64 (IntKind.i64.wrap (nZ z (oth c 1) 2 * nZ z (oth c 0) 3))) rfl (fun w' hw => by go_simp) ?_
            simp only [Act.put, List.setIfInBounds_toArray, List.set_cons_succ, List.set_cons_zero]
            refine rel_val (v := .int .i64 (IntKind.i64.wrap (IntKind.i64.wrap (nZ z (oth c 0) 2 * nZ z (oth c 1) 3) - IntKind.i64.wrap (nZ z (oth c 1) 2 * nZ z (oth c 0) 3)))) rfl (fun w' hw => by go_simp) ?_
            simp only [Act.put, List.setIfInBounds_toArray, List.set_cons_succ, List.set_cons_zero]
            refine rel_val (v := .int .i64 (IntKind.i64.wrap (nZ z (oth c 2) 1 * IntKind.i64.wrap (IntKind.i64.wrap (nZ z (oth c 0) 2 * nZ z (oth c 1) 3) - IntKind.i64.wrap (nZ z (oth c 1) 2 * nZ z (oth c 0) 3))))) rfl (fun w' hw => by go_simp) ?_
            simp only [Act.put, List.setIfInBounds_toArray, List.set_cons_succ, List.set_cons_zero]
            refine rel_val (v := .int .i64 (IntKind.i64.wrap (IntKind.i64.wrap (IntKind.i64.wrap (nZ z (oth c 0) 1 * IntKind.i64.wrap (IntKind.i64.wrap (nZ z (oth c 1) 2 * nZ z (oth c 2) 3) - IntKind.i64.wrap (nZ z (oth c 2) 2 * nZ z (oth c 1) 3))) - IntKind.i64.wrap (nZ z (oth c 1) 1 * IntKind.i64.wrap (IntKind.i64.wrap (nZ z (oth c 0) 2 * nZ z (oth c 2) 3) - IntKind.i64.wrap (nZ z (oth c 2) 2 * nZ z (oth c 0) 3)))) + IntKind.i64.wrap (nZ z (oth c 2) 1 * IntKind.i64.wrap (IntKind.i64.wrap (nZ z (oth c 0) 2 * nZ z (oth c 1) 3) - IntKind.i64.wrap (nZ z (oth c 1) 2 * nZ z (oth c 0) 3)))))) rfl (fun w' hw => by go_simp) ?_
            simp only [Act.put, List.setIfInBounds_toArray, List.set_cons_succ, List.set_cons_zero]
            refine rel_assign (v := .int .i64 (IntKind.i64.wrap (IntKind.i64.wrap (IntKind.i64.wrap (nZ z (oth c 0) 1 * IntKind.i64.wrap (IntKind.i64.wrap (nZ z (oth c 1) 2 * nZ z (oth c 2) 3) - IntKind.i64.wrap (nZ z (oth c 2) 2 * nZ z (oth c 1) 3))) - IntKind.i64.wrap (nZ z (oth c 1) 1 * IntKind.i64.wrap (IntKind.i64.wrap (nZ z (oth c 0) 2 * nZ z (oth c 2) 3) - IntKind.i64.wrap (nZ z (oth c 2) 2 * nZ z (oth c 0) 3)))) + IntKind.i64.wrap (nZ z (oth c 2) 1 * IntKind.i64.wrap (IntKind.i64.wrap (nZ z (oth c 0) 2 * nZ z (oth c 1) 3) - IntKind.i64.wrap (nZ z (oth c 1) 2 * nZ z (oth c 0) 3)))))) rfl rfl ?_
            simp only [Act.put, List.setIfInBounds_toArray, List.set_cons_succ, List.set_cons_zero]
            refine rel_nil ?_
            rintro w3 ⟨nn, rfl⟩
            have hN : Hid (∃ k, wr.drewN nn = wr.drewN k) := Lib.hid ⟨nn, rfl⟩
            have E9 := WM.out.1
            rw [E9]
            go_wp2_with fail
            go_meet
            exact ⟨rfl, hN⟩
          case rest =>
            obtain ⟨rfl, hN⟩ := hcut
            obtain ⟨nn, rfl⟩ := hN.out
            have BB := Lib.hid (show (wr.drewN nn).rangeAt w.heap.size 0 (ms.map (Value.float .f64)) ∧ Below w.heap.size w (wr.drewN nn) ∧ w.heap.size < (wr.drewN nn).heap.size from ⟨fun j v hj => RA.out j v hj, Bd hX.out.b nn, Nat.lt_trans hX.out.lt.1 hX.out.lt.2⟩)
            have DB := Lib.hid (show (z (4 * c + 0) * minZ z c).natAbs ≤ 6597069766656 ∧ (dsum z c).natAbs ≤ 26388279066624 from by
              have hmm : ∀ x, x < 4 → (nZ z x 0 * minZ z x).natAbs ≤ 6597069766656 := fun x hx => by
                have hb := HI.out
                have h16 : ∀ j, j < 16 → (z j).natAbs ≤ 1024 := fun j hj => by have := (hb.at_ j hj).le; omega
                have ho : ∀ j, j < 3 → oth x j < 4 := fun j hj => by unfold oth; split <;> omega
                have h4 : ∀ y i, y < 3 → i < 4 → (nZ z (oth x y) i).natAbs ≤ 1024 := fun y i hy hi => h16 _ (by have := ho y hy; omega)
                have wm := (wmin (nZ z (oth x 0) 1) (nZ z (oth x 1) 1) (nZ z (oth x 2) 1) (nZ z (oth x 0) 2) (nZ z (oth x 1) 2) (nZ z (oth x 2) 2) (nZ z (oth x 0) 3) (nZ z (oth x 1) 3) (nZ z (oth x 2) 3) (h4 0 1 (by omega) (by omega)) (h4 1 1 (by omega) (by omega)) (h4 2 1 (by omega) (by omega)) (h4 0 2 (by omega) (by omega)) (h4 1 2 (by omega) (by omega)) (h4 2 2 (by omega) (by omega)) (h4 0 3 (by omega) (by omega)) (h4 1 3 (by omega) (by omega)) (h4 2 3 (by omega) (by omega))).2
                exact mulB (h16 (4 * x + 0) (by omega)) wm
              exact ⟨hmm c HLT.out, by have := dsum_bound z hmm c (by have := HLT.out; omega); have := HLT.out; omega⟩)
            have hs := HLT.out
            rcases Nat.mod_two_eq_zero_or_one c with hp | hp
            · have q : ((c : Int) % 2 == 0) = true := by rw [beq_iff_eq]; omega
              have DS := Lib.hid (show dsum z (c + 1) = dsum z c + z (4 * c + 0) * minZ z c from if_pos hp)
              clear hp hX RA o0 o1 o2 WM HO hN hs
              go_wp2_with fail
              refine (k174 HI.out (by omega) w.heap.size c 0 HLT.out (by omega) _ BB.out.1).mono ?_
              rintro e w' ⟨rfl, rfl⟩
              clear q
              go_wp2_with fail
              have d1 := DB.out.1
              have d2 := DB.out.2
              have P0 : wrap64 (z (4 * c + 0) * minZ z c) = z (4 * c + 0) * minZ z c := IntWalk.wrap64_in _ ⟨by omega, by omega⟩
              have P2 : wrap64 (dsum z c + z (4 * c + 0) * minZ z c) = dsum z c + z (4 * c + 0) * minZ z c := IntWalk.wrap64_in _ ⟨by omega, by omega⟩
              have E : wrap64 (dsum z c + wrap64 (z (4 * c) * minZ z c)) = dsum z (c + 1) := by
                rw [show wrap64 (z (4 * c) * minZ z c) = z (4 * c + 0) * minZ z c from P0, DS.out]; exact P2
              rw [E]
              exact ⟨⟨c + 1, by go_num, rfl, Lib.hid (by have := HLT.out; omega), BB⟩, by have := HLT.out; simp [intOf]; omega⟩
            · have q : ((c : Int) % 2 == 0) = false := by rw [beq_eq_false_iff_ne]; omega
              have DS := Lib.hid (show dsum z (c + 1) = dsum z c - z (4 * c + 0) * minZ z c from if_neg (by omega))
              clear hp hX RA o0 o1 o2 WM HO hN hs
              go_wp2_with fail
              refine (k174 HI.out (by omega) w.heap.size c 0 HLT.out (by omega) _ BB.out.1).mono ?_
              rintro e w' ⟨rfl, rfl⟩
              clear q
              go_wp2_with fail
              have d1 := DB.out.1
              have d2 := DB.out.2
              have P0 : wrap64 (z (4 * c + 0) * minZ z c) = z (4 * c + 0) * minZ z c := IntWalk.wrap64_in _ ⟨by omega, by omega⟩
              have P2 : wrap64 (dsum z c - z (4 * c + 0) * minZ z c) = dsum z c - z (4 * c + 0) * minZ z c := IntWalk.wrap64_in _ ⟨by omega, by omega⟩
              have E : wrap64 (dsum z c - wrap64 (z (4 * c) * minZ z c)) = dsum z (c + 1) := by
                rw [show wrap64 (z (4 * c) * minZ z c) = z (4 * c + 0) * minZ z c from P0, DS.out]; exact P2
              rw [E]
              exact ⟨⟨c + 1, by go_num, rfl, Lib.hid (by have := HLT.out; omega), BB⟩, by have := HLT.out; simp [intOf]; omega⟩
    · have hki : ¬ (c : Int) < 4 := by omega
      have h4 : c = 4 := by have := hc.out; omega
      have E := Lib.hid (show dsum z c = detZ z by rw [h4]; exact dsum_det z)
      clear hlt h4
      go_wp2_with fail
      go_ret
      exact ⟨by rw [← E.out]; rfl, hI.out.2.1⟩
end Go.Proofs.Ytelalledjbeenaa
