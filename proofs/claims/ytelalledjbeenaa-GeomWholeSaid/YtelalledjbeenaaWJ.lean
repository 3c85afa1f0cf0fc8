/- The walk of GeomWhole. -/
import Derived.Test.YtelalledjbeenaaWL
import Derived.Test.YtelalledjbeenaaGeoM2
namespace Go.Proofs.Ytelalledjbeenaa
open Go.RowKit Fl

/-- the argument's cells -/
def WV (a b : List Int) (p M N : List Int) : List Value := a.map (Value.int .i32) ++ (b.map (Value.int .i32) ++ (p.map (Value.int .i16) ++ (M.map (Value.int .i16) ++ N.map (Value.int .i16))))
theorem range_sub {w : World} {g : Nat} {L M R : List Value} (h : w.rangeAt g 0 (L ++ (M ++ R))) (n : Nat) (hn : n = L.length) : w.rangeAt g n M := fun j v hj => by
  have hl : j < M.length := (List.getElem?_eq_some_iff.1 hj).1
  have := h (n + j) v (by rw [List.getElem?_append_right (by omega), List.getElem?_append_left (by omega), hn, Nat.add_sub_cancel_left]; exact hj)
  rwa [Nat.zero_add] at this
theorem range_left {w : World} {g : Nat} {M R : List Value} (h : w.rangeAt g 0 (M ++ R)) : w.rangeAt g 0 M := fun j v hj =>
  h j v (by rw [List.getElem?_append_left (List.getElem?_eq_some_iff.1 hj).1]; exact hj)
theorem oneF (xs : List Nat) : (xs.map (Value.float .f64)).toArray.all (·.oneCell') = true := one16 xs
theorem size118 : (Try.prog.info? 118).map (·.size) = some 4 := by kernel_rfl
theorem size121 : (Try.prog.info? 121).map (·.size) = some 16 := by kernel_rfl
theorem len4 {zs : List Int} (h : zs.length = 4) : ∃ a b c d, zs = [a, b, c, d] := by
  match zs, h with
  | [a, b, c, d], _ => exact ⟨a, b, c, d, rfl⟩
theorem mem_head {w wx : World} {x : Nat × List Value} {L : List (Nat × List Value)} (h : Mem w wx (x :: L)) : Mem w wx [x] := ⟨h.b, fun i g cs hi => by
  cases i with
  | zero => exact h.k 0 g cs (by simpa using hi)
  | succ n => simp at hi⟩
theorem mem_head2 {w wx : World} {x y : Nat × List Value} {L : List (Nat × List Value)} (h : Mem w wx (x :: y :: L)) : Mem w wx [x, y] := ⟨h.b, fun i g cs hi => by
  match i, hi with
  | 0, hi => exact h.k 0 g cs (by simpa using hi)
  | 1, hi => exact h.k 1 g cs (by simpa using hi)
  | n + 2, hi => simp at hi⟩
theorem size121L (zs : List Int) (h : zs.length = 16) : (Try.prog.info? 121).map (·.size) = some (zs.map (Value.int .i16)).length := by rw [List.length_map, h]; exact size121
theorem lenMZ (zs : List Int) (B : Int) (h : zs.length = 16) : ((mzL zs B).map (Value.float .f64)).length = 16 := by rw [List.length_map]; exact (mzL_MU h B).1
set_option maxRecDepth 100000 in
set_option maxHeartbeats 8000000 in
theorem walkGeomWhole (a0 a1 a2 a3 b0 b1 b2 b3 p0 p1 p2 p3 : Int) (M N : List Int) (w : World) (hM : M.length = 16) (hN : N.length = 16)
    (ha : ∀ z ∈ [a0, a1, a2, a3, b0, b1, b2, b3], z.natAbs ≤ 2147483648) (hp : ∀ z ∈ [p0, p1, p2, p3], -32768 ≤ z ∧ z ≤ 32767) (hMz : ∀ z ∈ M, -32768 ≤ z ∧ z ≤ 32767) (hNz : ∀ z ∈ N, -32768 ≤ z ∧ z ≤ 32767) :
    Calls Try.prog 21 #[.agg (WV [a0, a1, a2, a3] [b0, b1, b2, b3] [p0, p1, p2, p3] M N).toArray] w fun e w' => e = .returned (.bool true) ∧ Below w.heap.size w w' := by
  have HM := Lib.hid (And.intro hM hMz)
  have HN := Lib.hid (And.intro hN hNz)
  have HA := Lib.hid (And.intro ha hp)
  clear hM hN ha hp hMz hNz
  obtain ⟨V, hV⟩ : ∃ V, V = WV [a0, a1, a2, a3] [b0, b1, b2, b3] [p0, p1, p2, p3] M N := ⟨_, rfl⟩
  rw [← hV]
  have HV := Lib.hid hV
  clear hV
  have SRC := Lib.hid (show ∀ wx : World, wx.rangeAt w.heap.size 0 V → wx.rangeAt w.heap.size 0 ([a0, a1, a2, a3].map (Value.int .i32)) ∧ wx.rangeAt w.heap.size 4 ([b0, b1, b2, b3].map (Value.int .i32)) ∧ wx.rangeAt w.heap.size 8 ([p0, p1, p2, p3].map (Value.int .i16)) ∧ wx.rangeAt w.heap.size 12 (M.map (Value.int .i16)) ∧ wx.rangeAt w.heap.size 28 (N.map (Value.int .i16)) from fun wx h => by
    rw [HV.out] at h
    unfold WV at h
    have h1 := range_left h
    have h2 := range_sub h 4 rfl
    have h3 : wx.rangeAt w.heap.size 8 ([p0, p1, p2, p3].map (Value.int .i16)) := by rw [← List.append_assoc] at h; exact range_sub h 8 rfl
    have h4 : wx.rangeAt w.heap.size 12 (M.map (Value.int .i16)) := by rw [← List.append_assoc, ← List.append_assoc] at h; exact range_sub h 12 rfl
    have h5 : wx.rangeAt w.heap.size 28 (N.map (Value.int .i16)) := by
      rw [← List.append_assoc, ← List.append_assoc, ← List.append_assoc, ← List.append_nil (N.map (Value.int .i16))] at h
      exact range_sub h 28 (by simp [HM.out.1])
    exact ⟨h1, h2, h3, h4, h5⟩)
  go_enter Try.func21, Try.ntmps21
  go_wp2_with fail
  refine (k46 _).mono ?_
  rintro e w1 ⟨rfl, h1⟩
  have W1 : Hid (Mem w w1 [(w.heap.size, V)]) := Lib.hid (((show Mem w (w.alloc (.cells V.toArray 123)) [] from ⟨alloc_below _ _, fun i g cs hi => by simp at hi⟩).snoc (kp_new w V 123)).below h1)
  clear h1
  go_upto_region 2 with fail
  refine wp_gen (fun wx => Hid (Mem w wx [(w.heap.size, V)])) W1 ?_
  intro wc hW
  clear W1
  have r0 : ∀ w', Below wc.heap.size wc w' → w'.rangeAt (w.heap.size) 0 V := fun w' hw => ((hW.out.below hw).k 0 _ _ rfl).r
  refine RB.wp_region_alloc 8 (RB.D2 4 5 4) (GW 0) (by kernel_rfl) (by kernel_rfl) (fun t n h => by rcases RB.D2_or h with rfl | rfl <;> rfl) ?_
  simp only [List.take_succ_cons, List.take_zero, List.drop_succ_cons, List.drop_zero]
  refine RB.rel_val (v := .pointer (some ⟨w.heap.size, 0, none⟩)) rfl rfl (fun w' hw => by go_simp) ?_
  simp only [Act.put, List.setIfInBounds_toArray, List.set_cons_succ, List.set_cons_zero]
  refine RB.rel_load_row (w.heap.size) 0 ([a0, a1, a2, a3].map (Value.int .i32)) _ rfl rfl rfl (fun w' hw => (SRC.out w' (r0 w' hw)).1) Try.underlying118 rfl size118 ?_
  simp only [Act.put, List.setIfInBounds_toArray, List.set_cons_succ, List.set_cons_zero]
  refine RB.rel_call (f := 122) (args := #[.agg #[.int .i32 a0, .int .i32 a1, .int .i32 a2, .int .i32 a3]]) rfl rfl (fun w' hw => by go_simp) (fun w' hw => w122 0 a0 a1 a2 a3 w') (fun v hv => ?_)
  obtain rfl := (show Q122 _ v from hv) a0 a1 a2 a3 rfl
  simp only [Act.put, List.setIfInBounds_toArray, List.set_cons_succ, List.set_cons_zero]
  refine RB.rel_val (v := .pointer (some ⟨w.heap.size, 4, none⟩)) rfl rfl (fun w' hw => by go_simp) ?_
  simp only [Act.put, List.setIfInBounds_toArray, List.set_cons_succ, List.set_cons_zero]
  refine RB.rel_load_row (w.heap.size) 4 ([b0, b1, b2, b3].map (Value.int .i32)) _ rfl rfl rfl (fun w' hw => (SRC.out w' (r0 w' hw)).2.1) Try.underlying118 rfl size118 ?_
  simp only [Act.put, List.setIfInBounds_toArray, List.set_cons_succ, List.set_cons_zero]
  refine RB.rel_call (f := 122) (args := #[.agg #[.int .i32 b0, .int .i32 b1, .int .i32 b2, .int .i32 b3]]) rfl rfl (fun w' hw => by go_simp) (fun w' hw => w122 0 b0 b1 b2 b3 w') (fun v hv => ?_)
  obtain rfl := (show Q122 _ v from hv) b0 b1 b2 b3 rfl
  simp only [Act.put, List.setIfInBounds_toArray, List.set_cons_succ, List.set_cons_zero]
  refine RB.rel_alloc 4 #[.float .f64 0, .float .f64 0, .float .f64 0, .float .f64 0] rfl rfl rfl (fun w' => by go_simp) (fun b4 => ?_)
  simp only [Act.put, List.setIfInBounds_toArray, List.set_cons_succ, List.set_cons_zero]
  refine RB.rel_alloc 4 #[.float .f64 0, .float .f64 0, .float .f64 0, .float .f64 0] rfl rfl rfl (fun w' => by go_simp) (fun b5 => ?_)
  simp only [Act.put, List.setIfInBounds_toArray, List.set_cons_succ, List.set_cons_zero]
  refine RB.rel_nil ?_
  intro w3 hB3 hI
  have hx := hI.at (t := 4) (b := b4) rfl rfl
  have hy := hI.at (t := 5) (b := b5) rfl rfl
  have hne := hI.ne (t := 4) (t' := 5) (b := b4) (b' := b5) (by decide) rfl rfl rfl rfl
  have W3 : Hid (Mem w ((w3.setCells b4 0 ([(fz a0), (fz a1), (fz a2), (fz a3)].map (Value.float .f64))).setCells b5 0 ([(fz b0), (fz b1), (fz b2), (fz b3)].map (Value.float .f64))) ([(w.heap.size, V)] ++ [(b4, ([(fz a0), (fz a1), (fz a2), (fz a3)].map (Value.float .f64)))] ++ [(b5, ([(fz b0), (fz b1), (fz b2), (fz b3)].map (Value.float .f64)))])) := Lib.hid (mem_two hW.out hB3 hx hy hne rfl rfl)
  have Tx : Hid (w3.there b4 0 ([(fz a0), (fz a1), (fz a2), (fz a3)].map (Value.float .f64)).toArray.size) := Lib.hid (by have h := hx.2.2; rwa [← show ([(fz a0), (fz a1), (fz a2), (fz a3)].map (Value.float .f64)).toArray.size = 4 by rfl] at h)
  have Ty : Hid ((w3.setCells b4 0 ([(fz a0), (fz a1), (fz a2), (fz a3)].map (Value.float .f64))).there b5 0 ([(fz b0), (fz b1), (fz b2), (fz b3)].map (Value.float .f64)).toArray.size) := Lib.hid (World.there_setCells (by have h := hy.2.2; rwa [← show ([(fz b0), (fz b1), (fz b2), (fz b3)].map (Value.float .f64)).toArray.size = 4 by rfl] at h) _ _ _)
  have Ex : Hid ((Try.prog.info? 58).map (·.size) = some ([(fz a0), (fz a1), (fz a2), (fz a3)].map (Value.float .f64)).toArray.size) := Lib.hid (by rw [show ([(fz a0), (fz a1), (fz a2), (fz a3)].map (Value.float .f64)).toArray.size = 4 by rfl]; exact size58)
  have Ey : Hid ((Try.prog.info? 58).map (·.size) = some ([(fz b0), (fz b1), (fz b2), (fz b3)].map (Value.float .f64)).toArray.size) := Lib.hid (by rw [show ([(fz b0), (fz b1), (fz b2), (fz b3)].map (Value.float .f64)).toArray.size = 4 by rfl]; exact size58)
  clear hx hy hne hB3 hI hW r0
  go_upto_region 3 with (first
    | (refine wpList_store_mid rfl 58 (.tmp 4) (.tmp 26) rfl b4 0 ([(fz a0), (fz a1), (fz a2), (fz a3)].map (Value.float .f64)).toArray rfl rfl Tx.out Ex.out (oneF _) ?_)
    | (refine wpList_store_mid rfl 58 (.tmp 5) (.tmp 29) rfl b5 0 ([(fz b0), (fz b1), (fz b2), (fz b3)].map (Value.float .f64)).toArray rfl rfl Ty.out Ey.out (oneF _) ?_))
  refine wp_gen (fun wx => Hid (Mem w wx [(w.heap.size, V), (b4, ([(fz a0), (fz a1), (fz a2), (fz a3)].map (Value.float .f64))), (b5, ([(fz b0), (fz b1), (fz b2), (fz b3)].map (Value.float .f64)))])) W3 ?_
  clear W3 Tx Ty Ex Ey
  intro wd hW
  obtain ⟨y0, y1⟩ : wd.cell? ⟨w.heap.size, 8, none⟩ = some (.int .i16 p0) ∧ wd.cell? ⟨w.heap.size, 9, none⟩ = some (.int .i16 p1) := ⟨(SRC.out wd (hW.out.k 0 _ _ rfl).r).2.2.1 0 _ rfl, (SRC.out wd (hW.out.k 0 _ _ rfl).r).2.2.1 1 _ rfl⟩
  have e0 : floatOfInt .f64 p0 = fz p0 := rfl
  have e1 : floatOfInt .f64 p1 = fz p1 := rfl
  go_quiet (fail)
  clear y0 y1 e0 e1
  go_upto_region 4 with fail
  refine wp_gen (fun wx => Hid (Mem w wx [(w.heap.size, V), (b4, ([(fz a0), (fz a1), (fz a2), (fz a3)].map (Value.float .f64))), (b5, ([(fz b0), (fz b1), (fz b2), (fz b3)].map (Value.float .f64)))])) (Lib.hid (hW.out.below (Bd (Below.refl _ _) nq))) ?_
  clear hW
  intro we hW
  have r0 : ∀ w', Below we.heap.size we w' → w'.rangeAt (w.heap.size) 0 V := fun w' hw => ((hW.out.below hw).k 0 _ _ rfl).r
  have r1 : ∀ w', Below we.heap.size we w' → w'.rangeAt b4 0 ([(fz a0), (fz a1), (fz a2), (fz a3)].map (Value.float .f64)) := fun w' hw => ((hW.out.below hw).k 1 _ _ rfl).r
  have r2 : ∀ w', Below we.heap.size we w' → w'.rangeAt b5 0 ([(fz b0), (fz b1), (fz b2), (fz b3)].map (Value.float .f64)) := fun w' hw => ((hW.out.below hw).k 2 _ _ rfl).r
  refine wp_region_rel 10 (fun w' => Below we.heap.size we w') (GW 0) (by kernel_rfl) (by kernel_rfl) ((Below.refl _ _).drew) ?_
  simp only [List.take_succ_cons, List.take_zero, List.drop_succ_cons, List.drop_zero]
  refine rel_load_row (b4) 0 ([(fz a0), (fz a1), (fz a2), (fz a3)].map (Value.float .f64)) _ rfl rfl (fun w' hw => r1 w' hw) Try.underlying58 rfl size58 ?_
  simp only [Act.put, List.setIfInBounds_toArray, List.set_cons_succ, List.set_cons_zero]
  refine rel_move (v := .float .f64 (fz p0)) rfl rfl ?_
  simp only [Act.put, List.setIfInBounds_toArray, List.set_cons_succ, List.set_cons_zero]
  refine rel_move (v := .float .f64 (fz p1)) rfl rfl ?_
  simp only [Act.put, List.setIfInBounds_toArray, List.set_cons_succ, List.set_cons_zero]
  refine rel_call (f := 57) (args := #[.agg #[.float .f64 (fz a0), .float .f64 (fz a1), .float .f64 (fz a2), .float .f64 (fz a3)], .float .f64 (fz p0), .float .f64 (fz p1)]) rfl (fun w' hw => by go_simp) (fun w' hw => (w57 0 (fz_U _) (fz_U _) (fz_U _) (fz_U _) (fz_U _) (fz_U _) w').mono fun e w'' ⟨v, h1, h2, h3⟩ => ⟨v, h1, h2, below_trans hw h3⟩) (fun v hv => ?_)
  obtain rfl := (show Q57 _ v from hv) _ _ _ _ _ _ rfl
  simp only [Act.put, List.setIfInBounds_toArray, List.set_cons_succ, List.set_cons_zero]
  refine rel_load_row (b5) 0 ([(fz b0), (fz b1), (fz b2), (fz b3)].map (Value.float .f64)) _ rfl rfl (fun w' hw => r2 w' hw) Try.underlying58 rfl size58 ?_
  simp only [Act.put, List.setIfInBounds_toArray, List.set_cons_succ, List.set_cons_zero]
  refine rel_move (v := .float .f64 (fz p0)) rfl rfl ?_
  simp only [Act.put, List.setIfInBounds_toArray, List.set_cons_succ, List.set_cons_zero]
  refine rel_move (v := .float .f64 (fz p1)) rfl rfl ?_
  simp only [Act.put, List.setIfInBounds_toArray, List.set_cons_succ, List.set_cons_zero]
  refine rel_call (f := 57) (args := #[.agg #[.float .f64 (fz b0), .float .f64 (fz b1), .float .f64 (fz b2), .float .f64 (fz b3)], .float .f64 (fz p0), .float .f64 (fz p1)]) rfl (fun w' hw => by go_simp) (fun w' hw => (w57 0 (fz_U _) (fz_U _) (fz_U _) (fz_U _) (fz_U _) (fz_U _) w').mono fun e w'' ⟨v, h1, h2, h3⟩ => ⟨v, h1, h2, below_trans hw h3⟩) (fun v hv => ?_)
  obtain rfl := (show Q57 _ v from hv) _ _ _ _ _ _ rfl
  simp only [Act.put, List.setIfInBounds_toArray, List.set_cons_succ, List.set_cons_zero]
  refine rel_assign (v := .bool (hasP (pl (fz a0)) (pl (fz a1)) (pl (fz a2)) (pl (fz a3)) (pl (fz p0)) (pl (fz p1)))) rfl rfl ?_
  simp only [Act.put, List.setIfInBounds_toArray, List.set_cons_succ, List.set_cons_zero]
  refine rel_assign (v := .bool (hasP (pl (fz b0)) (pl (fz b1)) (pl (fz b2)) (pl (fz b3)) (pl (fz p0)) (pl (fz p1)))) rfl rfl ?_
  simp only [Act.put, List.setIfInBounds_toArray, List.set_cons_succ, List.set_cons_zero]
  refine rel_nil ?_
  intro w3 hB3
  have W3 := Lib.hid (hW.out.below hB3)
  clear hB3 hW r0 r1 r2
  go_upto_region 5 with fail
  refine wp_gen (fun wx => Hid (Mem w wx [(w.heap.size, V), (b4, ([(fz a0), (fz a1), (fz a2), (fz a3)].map (Value.float .f64))), (b5, ([(fz b0), (fz b1), (fz b2), (fz b3)].map (Value.float .f64)))])) W3 ?_
  clear W3
  intro wf hW
  have pa : ∀ z ∈ [a0, a1, a2, a3, b0, b1, b2, b3], PWh (pl (fz z)) z 2147483648 := fun z hz => fz_place z _ (HA.out.1 z hz) (by decide)
  have pp : ∀ z ∈ [p0, p1, p2, p3], PWh (pl (fz z)) z 32768 := fun z hz => fz_place z _ (by have := HA.out.2 z hz; omega) (by decide)
  have Pa0 := pa a0 (by simp)
  have Pa1 := pa a1 (by simp)
  have Pa2 := pa a2 (by simp)
  have Pa3 := pa a3 (by simp)
  have Pb0 := pa b0 (by simp)
  have Pb1 := pa b1 (by simp)
  have Pb2 := pa b2 (by simp)
  have Pb3 := pa b3 (by simp)
  have Px := pp p0 (by simp)
  have Py := pp p1 (by simp)
  have IA := has_place Pa0 Pa1 Pa2 Pa3 Px Py (by decide)
  have IB := has_place Pb0 Pb1 Pb2 Pb3 Px Py (by decide)
  have MB := meet_place Pa0 Pa1 Pa2 Pa3 Pb0 Pb1 Pb2 Pb3 (by decide)
  rw [IA, IB]
  have HP := Lib.hid (And.intro (PR.mk Pa0 Pa1 Pa2 Pa3) (And.intro (PR.mk Pb0 Pb1 Pb2 Pb3) (And.intro Px Py)))
  have HMB := Lib.hid MB
  have UH := Lib.hid (union_has a0 a1 a2 a3 b0 b1 b2 b3 p0 p1)
  have MH := Lib.hid (meet_has a0 a1 a2 a3 b0 b1 b2 b3 p0 p1)
  have MN := Lib.hid (meet_not a0 a1 a2 a3 b0 b1 b2 b3 p0 p1)
  clear pa pp Pa0 Pa1 Pa2 Pa3 Pb0 Pb1 Pb2 Pb3 Px Py IA IB MB
  generalize hasZ a0 a1 a2 a3 p0 p1 = iA at *
  generalize hasZ b0 b1 b2 b3 p0 p1 = iB at *
  have r0 : ∀ w', Below wf.heap.size wf w' → w'.rangeAt (w.heap.size) 0 V := fun w' hw => ((hW.out.below hw).k 0 _ _ rfl).r
  have r1 : ∀ w', Below wf.heap.size wf w' → w'.rangeAt b4 0 ([(fz a0), (fz a1), (fz a2), (fz a3)].map (Value.float .f64)) := fun w' hw => ((hW.out.below hw).k 1 _ _ rfl).r
  have r2 : ∀ w', Below wf.heap.size wf w' → w'.rangeAt b5 0 ([(fz b0), (fz b1), (fz b2), (fz b3)].map (Value.float .f64)) := fun w' hw => ((hW.out.below hw).k 2 _ _ rfl).r
  refine RB.wp_region_alloc 8 (RB.D2 10 11 4) (GW 0) (by kernel_rfl) (by kernel_rfl) (fun t n h => by rcases RB.D2_or h with rfl | rfl <;> rfl) ?_
  simp only [List.take_succ_cons, List.take_zero, List.drop_succ_cons, List.drop_zero]
  refine RB.rel_load_row (b4) 0 ([(fz a0), (fz a1), (fz a2), (fz a3)].map (Value.float .f64)) _ rfl rfl rfl (fun w' hw => r1 w' hw) Try.underlying58 rfl size58 ?_
  simp only [Act.put, List.setIfInBounds_toArray, List.set_cons_succ, List.set_cons_zero]
  refine RB.rel_load_row (b5) 0 ([(fz b0), (fz b1), (fz b2), (fz b3)].map (Value.float .f64)) _ rfl rfl rfl (fun w' hw => r2 w' hw) Try.underlying58 rfl size58 ?_
  simp only [Act.put, List.setIfInBounds_toArray, List.set_cons_succ, List.set_cons_zero]
  refine RB.rel_call (f := 55) (args := #[.agg #[.float .f64 (fz a0), .float .f64 (fz a1), .float .f64 (fz a2), .float .f64 (fz a3)], .agg #[.float .f64 (fz b0), .float .f64 (fz b1), .float .f64 (fz b2), .float .f64 (fz b3)]]) rfl rfl (fun w' hw => by go_simp) (fun w' hw => w55 0 (fz_U _) (fz_U _) (fz_U _) (fz_U _) (fz_U _) (fz_U _) (fz_U _) (fz_U _) w') (fun v hv => ?_)
  obtain ⟨u0, u1, u2, u3, rfl, hu0, hu1, hu2, hu3⟩ := (show Q55 _ v from hv) _ _ _ _ _ _ _ _ rfl
  simp only [Act.put, List.setIfInBounds_toArray, List.set_cons_succ, List.set_cons_zero]
  refine RB.rel_load_row (b5) 0 ([(fz b0), (fz b1), (fz b2), (fz b3)].map (Value.float .f64)) _ rfl rfl rfl (fun w' hw => r2 w' hw) Try.underlying58 rfl size58 ?_
  simp only [Act.put, List.setIfInBounds_toArray, List.set_cons_succ, List.set_cons_zero]
  refine RB.rel_load_row (b4) 0 ([(fz a0), (fz a1), (fz a2), (fz a3)].map (Value.float .f64)) _ rfl rfl rfl (fun w' hw => r1 w' hw) Try.underlying58 rfl size58 ?_
  simp only [Act.put, List.setIfInBounds_toArray, List.set_cons_succ, List.set_cons_zero]
  refine RB.rel_call (f := 55) (args := #[.agg #[.float .f64 (fz b0), .float .f64 (fz b1), .float .f64 (fz b2), .float .f64 (fz b3)], .agg #[.float .f64 (fz a0), .float .f64 (fz a1), .float .f64 (fz a2), .float .f64 (fz a3)]]) rfl rfl (fun w' hw => by go_simp) (fun w' hw => w55 0 (fz_U _) (fz_U _) (fz_U _) (fz_U _) (fz_U _) (fz_U _) (fz_U _) (fz_U _) w') (fun v hv => ?_)
  obtain ⟨v0, v1, v2, v3, rfl, hv0, hv1, hv2, hv3⟩ := (show Q55 _ v from hv) _ _ _ _ _ _ _ _ rfl
  simp only [Act.put, List.setIfInBounds_toArray, List.set_cons_succ, List.set_cons_zero]
  refine RB.rel_alloc 4 #[.float .f64 0, .float .f64 0, .float .f64 0, .float .f64 0] rfl rfl rfl (fun w' => by go_simp) (fun b10 => ?_)
  simp only [Act.put, List.setIfInBounds_toArray, List.set_cons_succ, List.set_cons_zero]
  refine RB.rel_alloc 4 #[.float .f64 0, .float .f64 0, .float .f64 0, .float .f64 0] rfl rfl rfl (fun w' => by go_simp) (fun b11 => ?_)
  simp only [Act.put, List.setIfInBounds_toArray, List.set_cons_succ, List.set_cons_zero]
  refine RB.rel_nil ?_
  intro w3 hB3 hI
  have hx := hI.at (t := 10) (b := b10) rfl rfl
  have hy := hI.at (t := 11) (b := b11) rfl rfl
  have hne := hI.ne (t := 10) (t' := 11) (b := b10) (b' := b11) (by decide) rfl rfl rfl rfl
  have W3 : Hid (Mem w ((w3.setCells b10 0 ([u0, u1, u2, u3].map (Value.float .f64))).setCells b11 0 ([v0, v1, v2, v3].map (Value.float .f64))) ([(w.heap.size, V), (b4, ([(fz a0), (fz a1), (fz a2), (fz a3)].map (Value.float .f64))), (b5, ([(fz b0), (fz b1), (fz b2), (fz b3)].map (Value.float .f64)))] ++ [(b10, ([u0, u1, u2, u3].map (Value.float .f64)))] ++ [(b11, ([v0, v1, v2, v3].map (Value.float .f64)))])) := Lib.hid (mem_two hW.out hB3 hx hy hne rfl rfl)
  have Tx : Hid (w3.there b10 0 ([u0, u1, u2, u3].map (Value.float .f64)).toArray.size) := Lib.hid (by have h := hx.2.2; rwa [← show ([u0, u1, u2, u3].map (Value.float .f64)).toArray.size = 4 by rfl] at h)
  have Ty : Hid ((w3.setCells b10 0 ([u0, u1, u2, u3].map (Value.float .f64))).there b11 0 ([v0, v1, v2, v3].map (Value.float .f64)).toArray.size) := Lib.hid (World.there_setCells (by have h := hy.2.2; rwa [← show ([v0, v1, v2, v3].map (Value.float .f64)).toArray.size = 4 by rfl] at h) _ _ _)
  have Ex : Hid ((Try.prog.info? 58).map (·.size) = some ([u0, u1, u2, u3].map (Value.float .f64)).toArray.size) := Lib.hid (by rw [show ([u0, u1, u2, u3].map (Value.float .f64)).toArray.size = 4 by rfl]; exact size58)
  have Ey : Hid ((Try.prog.info? 58).map (·.size) = some ([v0, v1, v2, v3].map (Value.float .f64)).toArray.size) := Lib.hid (by rw [show ([v0, v1, v2, v3].map (Value.float .f64)).toArray.size = 4 by rfl]; exact size58)
  clear hx hy hne hB3 hI hW r0 r1 r2
  go_upto_region 6 with (first
    | (refine wpList_store_mid rfl 58 (.tmp 10) (.tmp 48) rfl b10 0 ([u0, u1, u2, u3].map (Value.float .f64)).toArray rfl rfl Tx.out Ex.out (oneF _) ?_)
    | (refine wpList_store_mid rfl 58 (.tmp 11) (.tmp 51) rfl b11 0 ([v0, v1, v2, v3].map (Value.float .f64)).toArray rfl rfl Ty.out Ey.out (oneF _) ?_))
  refine wp_gen (fun wx => Hid (Mem w wx [(w.heap.size, V), (b4, ([(fz a0), (fz a1), (fz a2), (fz a3)].map (Value.float .f64))), (b5, ([(fz b0), (fz b1), (fz b2), (fz b3)].map (Value.float .f64))), (b10, ([u0, u1, u2, u3].map (Value.float .f64))), (b11, ([v0, v1, v2, v3].map (Value.float .f64)))])) W3 ?_
  clear W3 Tx Ty Ex Ey
  intro wg hW
  have HU := Lib.hid (And.intro hu0 (And.intro hu1 (And.intro hu2 hu3)))
  have HVV := Lib.hid (And.intro hv0 (And.intro hv1 (And.intro hv2 hv3)))
  clear hu0 hu1 hu2 hu3 hv0 hv1 hv2 hv3
  obtain ⟨y0, y1, y2, y3⟩ := cells4 (show wg.rangeAt b4 0 [.float .f64 (fz a0), .float .f64 (fz a1), .float .f64 (fz a2), .float .f64 (fz a3)] from (hW.out.k 1 _ _ rfl).r)
  obtain ⟨z0, z1, z2, z3⟩ := cells4 (show wg.rangeAt b5 0 [.float .f64 (fz b0), .float .f64 (fz b1), .float .f64 (fz b2), .float .f64 (fz b3)] from (hW.out.k 2 _ _ rfl).r)
  go_wp2_with fail
  refine (k52 (fz_RV _) (fz_RV _) (fz_RV _) (fz_RV _) (fz_RV _) (fz_RV _) (fz_RV _) (fz_RV _) _).mono ?_
  rintro e w4 ⟨he, h4⟩
  obtain ⟨m0, m1, m2, m3, rfl, hm⟩ := he
  have Hm := Lib.hid hm
  have W4 := Lib.hid (((hW.out.below h4).below (alloc_below w4 (.cells #[.float .f64 m0, .float .f64 m1, .float .f64 m2, .float .f64 m3] 58))).snoc (kp_new w4 [.float .f64 m0, .float .f64 m1, .float .f64 m2, .float .f64 m3] 58))
  obtain ⟨s0, s1, s2, s3⟩ := store4n w4 58
  clear hm h4 hW y0 y1 y2 y3 z0 z1 z2 z3
  go_upto_region 7 with fail
  refine wp_gen (fun wx => Hid (Mem w wx [(w.heap.size, V), (b4, ([(fz a0), (fz a1), (fz a2), (fz a3)].map (Value.float .f64))), (b5, ([(fz b0), (fz b1), (fz b2), (fz b3)].map (Value.float .f64))), (b10, ([u0, u1, u2, u3].map (Value.float .f64))), (b11, ([v0, v1, v2, v3].map (Value.float .f64))), (w4.heap.size, [.float .f64 m0, .float .f64 m1, .float .f64 m2, .float .f64 m3])])) W4 ?_
  clear W4 s0 s1 s2 s3
  intro wh hW
  generalize w4.heap.size = g12 at *
  obtain ⟨y0, y1, y2, y3⟩ := cells4 (show wh.rangeAt b5 0 [.float .f64 (fz b0), .float .f64 (fz b1), .float .f64 (fz b2), .float .f64 (fz b3)] from (hW.out.k 2 _ _ rfl).r)
  obtain ⟨z0, z1, z2, z3⟩ := cells4 (show wh.rangeAt b4 0 [.float .f64 (fz a0), .float .f64 (fz a1), .float .f64 (fz a2), .float .f64 (fz a3)] from (hW.out.k 1 _ _ rfl).r)
  go_wp2_with fail
  refine (k52 (fz_RV _) (fz_RV _) (fz_RV _) (fz_RV _) (fz_RV _) (fz_RV _) (fz_RV _) (fz_RV _) _).mono ?_
  rintro e w4 ⟨he, h4⟩
  have he := MeetR_comm _ _ _ _ _ _ _ _ _ he
  obtain ⟨n0, n1, n2, n3, rfl, hn⟩ := he
  have Hn := Lib.hid hn
  have W4 := Lib.hid (((hW.out.below h4).below (alloc_below w4 (.cells #[.float .f64 n0, .float .f64 n1, .float .f64 n2, .float .f64 n3] 58))).snoc (kp_new w4 [.float .f64 n0, .float .f64 n1, .float .f64 n2, .float .f64 n3] 58))
  obtain ⟨s0, s1, s2, s3⟩ := store4n w4 58
  clear hn h4 hW y0 y1 y2 y3 z0 z1 z2 z3
  go_upto_region 8 with fail
  refine wp_gen (fun wx => Hid (Mem w wx [(w.heap.size, V), (b4, ([(fz a0), (fz a1), (fz a2), (fz a3)].map (Value.float .f64))), (b5, ([(fz b0), (fz b1), (fz b2), (fz b3)].map (Value.float .f64))), (b10, ([u0, u1, u2, u3].map (Value.float .f64))), (b11, ([v0, v1, v2, v3].map (Value.float .f64))), (g12, [.float .f64 m0, .float .f64 m1, .float .f64 m2, .float .f64 m3]), (w4.heap.size, [.float .f64 n0, .float .f64 n1, .float .f64 n2, .float .f64 n3])])) W4 ?_
  clear W4 s0 s1 s2 s3
  intro wi hW
  generalize w4.heap.size = g14 at *
  have US := uni_same HP.out.1 HP.out.2.1 HU.out.1 HU.out.2.1 HU.out.2.2.1 HU.out.2.2.2 HVV.out.1 HVV.out.2.1 HVV.out.2.2.1 HVV.out.2.2.2
  have MS := meet_same HP.out.1 HP.out.2.1 (m0 := m0) (m1 := m1) (m2 := m2) (m3 := m3) (n0 := n0) (n1 := n1) (n2 := n2) (n3 := n3) Hm.out Hn.out
  have UE := Lib.hid US
  have ME := Lib.hid MS
  clear US MS
  have CU : Hid (iA = true ∨ iB = true → ∀ wx, Calls Try.prog 57 #[.agg #[.float .f64 u0, .float .f64 u1, .float .f64 u2, .float .f64 u3], .float .f64 (fz p0), .float .f64 (fz p1)] wx fun e w' => e = .returned (.bool true) ∧ Below wx.heap.size wx w') := Lib.hid (fun hor wx => by
    have h := k57 (RV.self HU.out.1.1) (RV.self HU.out.2.1.1) (RV.self HU.out.2.2.1.1) (RV.self HU.out.2.2.2.1) (fz_RV p0) (fz_RV p1) wx
    rw [uni_has HP.out.1 HP.out.2.1 HP.out.2.2.1 HP.out.2.2.2 HU.out.1 HU.out.2.1 HU.out.2.2.1 HU.out.2.2.2, UH.out hor] at h
    exact h)
  obtain ⟨mb, hmb⟩ : ∃ mb, mb = meetB (pl (fz a0)) (pl (fz a1)) (pl (fz a2)) (pl (fz a3)) (pl (fz b0)) (pl (fz b1)) (pl (fz b2)) (pl (fz b3)) := ⟨_, rfl⟩
  have hmz : mb = meetZ a0 a1 a2 a3 b0 b1 b2 b3 := hmb.trans HMB.out
  have CM : Hid (mb = true → ∀ wx, Calls Try.prog 57 #[.agg #[.float .f64 m0, .float .f64 m1, .float .f64 m2, .float .f64 m3], .float .f64 (fz p0), .float .f64 (fz p1)] wx fun e w' => e = .returned (.bool (iA && iB)) ∧ Below wx.heap.size wx w') := Lib.hid (fun hor wx => by
    have mu := meetU (m0 := m0) (m1 := m1) (m2 := m2) (m3 := m3) Hm.out
    have h := k57 (RV.self mu.1) (RV.self mu.2.1) (RV.self mu.2.2.1) (RV.self mu.2.2.2) (fz_RV p0) (fz_RV p1) wx
    rw [mee_has HP.out.1 HP.out.2.1 HP.out.2.2.1 HP.out.2.2.2 (m0 := m0) (m1 := m1) (m2 := m2) (m3 := m3) Hm.out (by rw [← hmb]; exact hor), ← MH.out (by rw [← hmz]; exact hor)] at h
    exact h)
  have NM : Hid (mb = false → (iA && iB) = false) := Lib.hid (fun h => MN.out (by rw [← hmz]; exact h))
  rw [← hmb]
  clear hmb hmz HMB UH MH MN HP HU HVV Hm Hn
  go_cut [8, 9, 13, 15, 103] (fun _v8 _v9 _v13 _v15 v wx => v = .bool false ∧ Hid (Mem w wx [(w.heap.size, V), (b4, ([(fz a0), (fz a1), (fz a2), (fz a3)].map (Value.float .f64))), (b5, ([(fz b0), (fz b1), (fz b2), (fz b3)].map (Value.float .f64))), (b10, ([u0, u1, u2, u3].map (Value.float .f64))), (b11, ([v0, v1, v2, v3].map (Value.float .f64))), (g12, [.float .f64 m0, .float .f64 m1, .float .f64 m2, .float .f64 m3]), (g14, [.float .f64 n0, .float .f64 n1, .float .f64 n2, .float .f64 n3])]))
  case first =>
    have q00 := fun w => eqF2 w u0 v0 UE.out.1
    have q01 := fun w => eqF2 w u1 v1 UE.out.2.1
    have q02 := fun w => eqF2 w u2 v2 UE.out.2.2.1
    have q03 := fun w => eqF2 w u3 v3 UE.out.2.2.2
    have q10 := fun w => eqF2 w m0 n0 ME.out.1
    have q11 := fun w => eqF2 w m1 n1 ME.out.2.1
    have q12 := fun w => eqF2 w m2 n2 ME.out.2.2.1
    have q13 := fun w => eqF2 w m3 n3 ME.out.2.2.2
    obtain ⟨xa0, xa1, xa2, xa3⟩ := cells4 (show wi.rangeAt b10 0 [.float .f64 u0, .float .f64 u1, .float .f64 u2, .float .f64 u3] from (hW.out.k 3 _ _ rfl).r)
    obtain ⟨xb0, xb1, xb2, xb3⟩ := cells4 (show wi.rangeAt b11 0 [.float .f64 v0, .float .f64 v1, .float .f64 v2, .float .f64 v3] from (hW.out.k 4 _ _ rfl).r)
    obtain ⟨xc0, xc1, xc2, xc3⟩ := cells4 (show wi.rangeAt g12 0 [.float .f64 m0, .float .f64 m1, .float .f64 m2, .float .f64 m3] from (hW.out.k 5 _ _ rfl).r)
    obtain ⟨xd0, xd1, xd2, xd3⟩ := cells4 (show wi.rangeAt g14 0 [.float .f64 n0, .float .f64 n1, .float .f64 n2, .float .f64 n3] from (hW.out.k 6 _ _ rfl).r)
    cases hiA : iA <;> cases hiB : iB <;> cases hmB : mb
    · rw [hiA, hiB] at NM CM CU
      skip
      skip
      clear CM CU NM hiA hiB hmB
      go_wp2_with fail
      go_meet
      exact ⟨rfl, Lib.hid hW.out⟩
    · rw [hiA, hiB] at NM CM CU
      have CM2 := CM.out hmB
      skip
      have CM3 := Lib.hid CM2
      clear CM2
      clear CM CU NM hiA hiB hmB
      go_wp2_with fail
      refine (CM3.out _).mono ?_
      rintro e w3 ⟨rfl, hb⟩
      have W3 := Lib.hid (hW.out.below hb)
      clear hb
      go_wp2_with fail
      go_meet
      exact ⟨rfl, Lib.hid W3.out⟩
    · rw [hiA, hiB] at NM CM CU
      skip
      have CU2 := CU.out (by simp)
      have CU3 := Lib.hid CU2
      clear CU2
      clear CM CU NM hiA hiB hmB
      go_wp2_with fail
      refine (CU3.out _).mono ?_
      rintro e w2 ⟨rfl, hb⟩
      have W2 := Lib.hid (hW.out.below hb)
      clear hb xa0 xa1 xa2 xa3 xb0 xb1 xb2 xb3 xc0 xc1 xc2 xc3 xd0 xd1 xd2 xd3
      obtain ⟨xc0, xc1, xc2, xc3⟩ := cells4 (show w2.rangeAt g12 0 [.float .f64 m0, .float .f64 m1, .float .f64 m2, .float .f64 m3] from (W2.out.k 5 _ _ rfl).r)
      go_wp2_with fail
      go_meet
      exact ⟨rfl, Lib.hid W2.out⟩
    · rw [hiA, hiB] at NM CM CU
      have CM2 := CM.out hmB
      have CU2 := CU.out (by simp)
      have CM3 := Lib.hid CM2
      clear CM2
      have CU3 := Lib.hid CU2
      clear CU2
      clear CM CU NM hiA hiB hmB
      go_wp2_with fail
      refine (CU3.out _).mono ?_
      rintro e w2 ⟨rfl, hb⟩
      have W2 := Lib.hid (hW.out.below hb)
      clear hb xa0 xa1 xa2 xa3 xb0 xb1 xb2 xb3 xc0 xc1 xc2 xc3 xd0 xd1 xd2 xd3
      obtain ⟨xc0, xc1, xc2, xc3⟩ := cells4 (show w2.rangeAt g12 0 [.float .f64 m0, .float .f64 m1, .float .f64 m2, .float .f64 m3] from (W2.out.k 5 _ _ rfl).r)
      go_wp2_with fail
      refine (CM3.out _).mono ?_
      rintro e w3 ⟨rfl, hb⟩
      have W3 := Lib.hid (W2.out.below hb)
      clear hb
      go_wp2_with fail
      go_meet
      exact ⟨rfl, Lib.hid W3.out⟩
    · rw [hiA, hiB] at NM CM CU
      skip
      have CU2 := CU.out (by simp)
      have CU3 := Lib.hid CU2
      clear CU2
      clear CM CU NM hiA hiB hmB
      go_wp2_with fail
      refine (CU3.out _).mono ?_
      rintro e w2 ⟨rfl, hb⟩
      have W2 := Lib.hid (hW.out.below hb)
      clear hb xa0 xa1 xa2 xa3 xb0 xb1 xb2 xb3 xc0 xc1 xc2 xc3 xd0 xd1 xd2 xd3
      obtain ⟨xc0, xc1, xc2, xc3⟩ := cells4 (show w2.rangeAt g12 0 [.float .f64 m0, .float .f64 m1, .float .f64 m2, .float .f64 m3] from (W2.out.k 5 _ _ rfl).r)
      go_wp2_with fail
      go_meet
      exact ⟨rfl, Lib.hid W2.out⟩
    · rw [hiA, hiB] at NM CM CU
      have CM2 := CM.out hmB
      have CU2 := CU.out (by simp)
      have CM3 := Lib.hid CM2
      clear CM2
      have CU3 := Lib.hid CU2
      clear CU2
      clear CM CU NM hiA hiB hmB
      go_wp2_with fail
      refine (CU3.out _).mono ?_
      rintro e w2 ⟨rfl, hb⟩
      have W2 := Lib.hid (hW.out.below hb)
      clear hb xa0 xa1 xa2 xa3 xb0 xb1 xb2 xb3 xc0 xc1 xc2 xc3 xd0 xd1 xd2 xd3
      obtain ⟨xc0, xc1, xc2, xc3⟩ := cells4 (show w2.rangeAt g12 0 [.float .f64 m0, .float .f64 m1, .float .f64 m2, .float .f64 m3] from (W2.out.k 5 _ _ rfl).r)
      go_wp2_with fail
      refine (CM3.out _).mono ?_
      rintro e w3 ⟨rfl, hb⟩
      have W3 := Lib.hid (W2.out.below hb)
      clear hb
      go_wp2_with fail
      go_meet
      exact ⟨rfl, Lib.hid W3.out⟩
    · rw [hiA, hiB] at NM CM CU
      exact absurd (NM.out hmB) (by decide)
    · rw [hiA, hiB] at NM CM CU
      have CM2 := CM.out hmB
      have CU2 := CU.out (by simp)
      have CM3 := Lib.hid CM2
      clear CM2
      have CU3 := Lib.hid CU2
      clear CU2
      clear CM CU NM hiA hiB hmB
      go_wp2_with fail
      refine (CU3.out _).mono ?_
      rintro e w2 ⟨rfl, hb⟩
      have W2 := Lib.hid (hW.out.below hb)
      clear hb xa0 xa1 xa2 xa3 xb0 xb1 xb2 xb3 xc0 xc1 xc2 xc3 xd0 xd1 xd2 xd3
      obtain ⟨xc0, xc1, xc2, xc3⟩ := cells4 (show w2.rangeAt g12 0 [.float .f64 m0, .float .f64 m1, .float .f64 m2, .float .f64 m3] from (W2.out.k 5 _ _ rfl).r)
      go_wp2_with fail
      refine (CM3.out _).mono ?_
      rintro e w3 ⟨rfl, hb⟩
      have W3 := Lib.hid (W2.out.below hb)
      clear hb
      go_wp2_with fail
      go_meet
      exact ⟨rfl, Lib.hid W3.out⟩
  case rest =>
  obtain ⟨rfl, hX⟩ := hcut
  have W8 := Lib.hid (mem_head hX.out)
  clear hX UE ME
  go_upto_region 10 with fail
  refine wp_gen (fun wx => Hid (Mem w wx [(w.heap.size, V)])) W8 ?_
  clear W8
  intro wj hW
  have r0 : ∀ w', Below wj.heap.size wj w' → w'.rangeAt (w.heap.size) 0 V := fun w' hw => ((hW.out.below hw).k 0 _ _ rfl).r
  refine RB.wp_region_alloc 8 (RB.D2 16 17 16) (GW 0) (by kernel_rfl) (by kernel_rfl) (fun t n h => by rcases RB.D2_or h with rfl | rfl <;> rfl) ?_
  simp only [List.take_succ_cons, List.take_zero, List.drop_succ_cons, List.drop_zero]
  refine RB.rel_val (v := .pointer (some ⟨w.heap.size, 12, none⟩)) rfl rfl (fun w' hw => by go_simp) ?_
  simp only [Act.put, List.setIfInBounds_toArray, List.set_cons_succ, List.set_cons_zero]
  refine RB.rel_load_row (w.heap.size) 12 (M.map (Value.int .i16)) _ rfl rfl rfl (fun w' hw => (SRC.out w' (r0 w' hw)).2.2.2.1) Try.underlying121 rfl (size121L M HM.out.1) ?_
  simp only [Act.put, List.setIfInBounds_toArray, List.set_cons_succ, List.set_cons_zero]
  refine RB.rel_call (f := 123) (args := #[.agg (M.map (Value.int .i16)).toArray, .int .i16 1024]) rfl rfl (fun w' hw => by go_simp) (fun w' hw => w123 0 HM.out.1 HM.out.2 1024 (by decide) 1024 rfl w') (fun v hv => ?_)
  obtain rfl := (show Q123 _ v from hv) M 1024 rfl
  simp only [Act.put, List.setIfInBounds_toArray, List.set_cons_succ, List.set_cons_zero]
  refine RB.rel_val (v := .pointer (some ⟨w.heap.size, 28, none⟩)) rfl rfl (fun w' hw => by go_simp) ?_
  simp only [Act.put, List.setIfInBounds_toArray, List.set_cons_succ, List.set_cons_zero]
  refine RB.rel_load_row (w.heap.size) 28 (N.map (Value.int .i16)) _ rfl rfl rfl (fun w' hw => (SRC.out w' (r0 w' hw)).2.2.2.2) Try.underlying121 rfl (size121L N HN.out.1) ?_
  simp only [Act.put, List.setIfInBounds_toArray, List.set_cons_succ, List.set_cons_zero]
  refine RB.rel_call (f := 123) (args := #[.agg (N.map (Value.int .i16)).toArray, .int .i16 1024]) rfl rfl (fun w' hw => by go_simp) (fun w' hw => w123 0 HN.out.1 HN.out.2 1024 (by decide) 1024 rfl w') (fun v hv => ?_)
  obtain rfl := (show Q123 _ v from hv) N 1024 rfl
  simp only [Act.put, List.setIfInBounds_toArray, List.set_cons_succ, List.set_cons_zero]
  refine RB.rel_alloc 16 Z16 rfl rfl rfl (fun w' => by go_simp; rfl) (fun b16 => ?_)
  simp only [Act.put, List.setIfInBounds_toArray, List.set_cons_succ, List.set_cons_zero]
  refine RB.rel_alloc 16 Z16 rfl rfl rfl (fun w' => by go_simp; rfl) (fun b17 => ?_)
  simp only [Act.put, List.setIfInBounds_toArray, List.set_cons_succ, List.set_cons_zero]
  refine RB.rel_nil ?_
  intro w3 hB3 hI
  have hx := hI.at (t := 16) (b := b16) rfl rfl
  have hy := hI.at (t := 17) (b := b17) rfl rfl
  have hne := hI.ne (t := 16) (t' := 17) (b := b16) (b' := b17) (by decide) rfl rfl rfl rfl
  have W3 : Hid (Mem w ((w3.setCells b16 0 ((mzL M 1024).map (Value.float .f64))).setCells b17 0 ((mzL N 1024).map (Value.float .f64))) ([(w.heap.size, V)] ++ [(b16, ((mzL M 1024).map (Value.float .f64)))] ++ [(b17, ((mzL N 1024).map (Value.float .f64)))])) := Lib.hid (mem_two hW.out hB3 hx hy hne (lenMZ M 1024 HM.out.1) (lenMZ N 1024 HN.out.1))
  have Tx : Hid (w3.there b16 0 ((mzL M 1024).map (Value.float .f64)).toArray.size) := Lib.hid (by have h := hx.2.2; rwa [← show ((mzL M 1024).map (Value.float .f64)).toArray.size = 16 by exact lenMZ M 1024 HM.out.1] at h)
  have Ty : Hid ((w3.setCells b16 0 ((mzL M 1024).map (Value.float .f64))).there b17 0 ((mzL N 1024).map (Value.float .f64)).toArray.size) := Lib.hid (World.there_setCells (by have h := hy.2.2; rwa [← show ((mzL N 1024).map (Value.float .f64)).toArray.size = 16 by exact lenMZ N 1024 HN.out.1] at h) _ _ _)
  have Ex : Hid ((Try.prog.info? 80).map (·.size) = some ((mzL M 1024).map (Value.float .f64)).toArray.size) := Lib.hid (by rw [show ((mzL M 1024).map (Value.float .f64)).toArray.size = 16 by exact lenMZ M 1024 HM.out.1]; exact size80)
  have Ey : Hid ((Try.prog.info? 80).map (·.size) = some ((mzL N 1024).map (Value.float .f64)).toArray.size) := Lib.hid (by rw [show ((mzL N 1024).map (Value.float .f64)).toArray.size = 16 by exact lenMZ N 1024 HN.out.1]; exact size80)
  clear hx hy hne hB3 hI hW r0
  go_upto_region 11 with (first
    | (refine wpList_store_mid rfl 80 (.tmp 16) (.tmp 106) rfl b16 0 ((mzL M 1024).map (Value.float .f64)).toArray rfl rfl Tx.out Ex.out (oneF _) ?_)
    | (refine wpList_store_mid rfl 80 (.tmp 17) (.tmp 109) rfl b17 0 ((mzL N 1024).map (Value.float .f64)).toArray rfl rfl Ty.out Ey.out (oneF _) ?_))
  refine wp_gen (fun wx => Hid (Mem w wx [(w.heap.size, V), (b16, ((mzL M 1024).map (Value.float .f64))), (b17, ((mzL N 1024).map (Value.float .f64)))])) W3 ?_
  clear W3 Tx Ty Ex Ey
  intro wk hW
  obtain ⟨y2, y3⟩ : wk.cell? ⟨w.heap.size, 10, none⟩ = some (.int .i16 p2) ∧ wk.cell? ⟨w.heap.size, 11, none⟩ = some (.int .i16 p3) := ⟨(SRC.out wk (hW.out.k 0 _ _ rfl).r).2.2.1 2 _ rfl, (SRC.out wk (hW.out.k 0 _ _ rfl).r).2.2.1 3 _ rfl⟩
  have e2 : floatOfInt .f64 (p2.tmod 1024) = fz (p2.tmod 1024) := rfl
  have e3 : floatOfInt .f64 (p3.tmod 1024) = fz (p3.tmod 1024) := rfl
  obtain ⟨q0, hq0, uq0⟩ := quo64 p0 (by have := HA.out.2 p0 (by simp); omega)
  obtain ⟨q1, hq1, uq1⟩ := quo64 p1 (by have := HA.out.2 p1 (by simp); omega)
  have UQ0 := Lib.hid uq0
  have UQ1 := Lib.hid uq1
  clear uq0 uq1
  unfold C64 at hq0 hq1
  obtain ⟨s0, s1, s2, s3⟩ := store4n wk 60
  have W4 : Hid (Mem w (wk.alloc (.cells #[.float .f64 q0, .float .f64 q1, .float .f64 (fz (p2.tmod 1024)), .float .f64 (fz (p3.tmod 1024))] 60)) ([(w.heap.size, V), (b16, ((mzL M 1024).map (Value.float .f64))), (b17, ((mzL N 1024).map (Value.float .f64)))] ++ [(wk.heap.size, ([q0, q1, fz (p2.tmod 1024), fz (p3.tmod 1024)].map (Value.float .f64)))])) := Lib.hid ((hW.out.below (alloc_below wk (.cells #[.float .f64 q0, .float .f64 q1, .float .f64 (fz (p2.tmod 1024)), .float .f64 (fz (p3.tmod 1024))] 60))).snoc (kp_new wk [.float .f64 q0, .float .f64 q1, .float .f64 (fz (p2.tmod 1024)), .float .f64 (fz (p3.tmod 1024))] 60))
  have T4 := Lib.hid (there_new wk #[.float .f64 q0, .float .f64 q1, .float .f64 (fz (p2.tmod 1024)), .float .f64 (fz (p3.tmod 1024))] 60 4 rfl)
  have LT := Lib.hid (show w.heap.size < wk.heap.size ∧ b16 < wk.heap.size ∧ b17 < wk.heap.size from ⟨(hW.out.k 0 _ _ rfl).l, (hW.out.k 1 _ _ rfl).l, (hW.out.k 2 _ _ rfl).l⟩)
  go_upto_region 12 with fail
  refine wp_gen (fun wx => Hid (Mem w wx [(w.heap.size, V), (b16, ((mzL M 1024).map (Value.float .f64))), (b17, ((mzL N 1024).map (Value.float .f64))), (wk.heap.size, ([q0, q1, fz (p2.tmod 1024), fz (p3.tmod 1024)].map (Value.float .f64)))]) ∧ Hid (wx.there wk.heap.size 0 4)) ⟨W4, T4⟩ ?_
  clear W4 T4 s0 s1 s2 s3 y2 y3 hq0 hq1 e2 e3 hW
  rintro wl ⟨hW, hT⟩
  generalize wk.heap.size = g18 at *
  have r0 : ∀ w', Below wl.heap.size wl w' → w'.rangeAt (w.heap.size) 0 V := fun w' hw => ((hW.out.below hw).k 0 _ _ rfl).r
  have r1 : ∀ w', Below wl.heap.size wl w' → w'.rangeAt b16 0 ((mzL M 1024).map (Value.float .f64)) := fun w' hw => ((hW.out.below hw).k 1 _ _ rfl).r
  have r2 : ∀ w', Below wl.heap.size wl w' → w'.rangeAt b17 0 ((mzL N 1024).map (Value.float .f64)) := fun w' hw => ((hW.out.below hw).k 2 _ _ rfl).r
  have r3 : ∀ w', Below wl.heap.size wl w' → w'.rangeAt g18 0 ([q0, q1, fz (p2.tmod 1024), fz (p3.tmod 1024)].map (Value.float .f64)) := fun w' hw => ((hW.out.below hw).k 3 _ _ rfl).r
  refine wp_region_rel 7 (fun w' => Below wl.heap.size wl w') GF (by kernel_rfl) (by kernel_rfl) ((Below.refl _ _).drew) ?_
  simp only [List.take_succ_cons, List.take_zero, List.drop_succ_cons, List.drop_zero]
  refine rel_val (v := .pointer (some ⟨g18, 0, none⟩)) rfl (fun w' hw => by go_simp) ?_
  simp only [Act.put, List.setIfInBounds_toArray, List.set_cons_succ, List.set_cons_zero]
  refine rel_val (v := .float .f64 q0) rfl (fun w' hw => by obtain ⟨c0, c1, c2, c3⟩ := cells4 (show w'.rangeAt g18 0 [.float .f64 q0, .float .f64 q1, .float .f64 (fz (p2.tmod 1024)), .float .f64 (fz (p3.tmod 1024))] from r3 w' hw); go_simp) ?_
  simp only [Act.put, List.setIfInBounds_toArray, List.set_cons_succ, List.set_cons_zero]
  refine rel_call (f := 124) (args := #[.float .f64 q0]) rfl (fun w' hw => by go_simp) (fun w' hw => (w124 UQ0.out w').mono fun e w'' ⟨v, h1, h2, h3⟩ => ⟨v, h1, h2, below_trans hw h3⟩) (fun v hv => ?_)
  obtain ⟨f0, F0, rfl, uf0, pf0⟩ := hv
  simp only [Act.put, List.setIfInBounds_toArray, List.set_cons_succ, List.set_cons_zero]
  refine rel_val (v := .pointer (some ⟨g18, 1, none⟩)) rfl (fun w' hw => by go_simp) ?_
  simp only [Act.put, List.setIfInBounds_toArray, List.set_cons_succ, List.set_cons_zero]
  refine rel_val (v := .float .f64 q1) rfl (fun w' hw => by obtain ⟨c0, c1, c2, c3⟩ := cells4 (show w'.rangeAt g18 0 [.float .f64 q0, .float .f64 q1, .float .f64 (fz (p2.tmod 1024)), .float .f64 (fz (p3.tmod 1024))] from r3 w' hw); go_simp) ?_
  simp only [Act.put, List.setIfInBounds_toArray, List.set_cons_succ, List.set_cons_zero]
  refine rel_call (f := 124) (args := #[.float .f64 q1]) rfl (fun w' hw => by go_simp) (fun w' hw => (w124 UQ1.out w').mono fun e w'' ⟨v, h1, h2, h3⟩ => ⟨v, h1, h2, below_trans hw h3⟩) (fun v hv => ?_)
  obtain ⟨f1, F1, rfl, uf1, pf1⟩ := hv
  simp only [Act.put, List.setIfInBounds_toArray, List.set_cons_succ, List.set_cons_zero]
  refine rel_val (v := .pointer (some ⟨g18, 0, none⟩)) rfl (fun w' hw => by go_simp) ?_
  simp only [Act.put, List.setIfInBounds_toArray, List.set_cons_succ, List.set_cons_zero]
  refine rel_nil ?_
  intro w3 hB3
  have W3 := Lib.hid (mem_set2 (L := [(w.heap.size, V), (b16, ((mzL M 1024).map (Value.float .f64))), (b17, ((mzL N 1024).map (Value.float .f64)))]) (hW.out.below hB3) (fun e he => by simp only [List.mem_cons, List.mem_nil_iff, or_false] at he; rcases he with rfl | rfl | rfl <;> first | exact LT.out.1 | exact LT.out.2.1 | exact LT.out.2.2) (Nat.le_of_lt LT.out.1) f0 f1)
  have T3 := there_below hT.out hB3 (hW.out.k 3 _ _ rfl).l
  have st0 := store1 T3 (show 0 < 4 by decide) f0
  have st1 := store1 (there_set T3 ⟨g18, 0, none⟩ (.float .f64 f0)) (show 1 < 4 by decide) f1
  have HF := Lib.hid (And.intro (And.intro uf0 pf0) (And.intro uf1 pf1))
  clear T3 hT hB3 hW r0 r1 r2 r3 uf0 pf0 uf1 pf1 UQ0 UQ1
  go_upto_region 13 with fail
  refine wp_gen (fun wx => Hid (Mem w wx [(w.heap.size, V), (b16, ((mzL M 1024).map (Value.float .f64))), (b17, ((mzL N 1024).map (Value.float .f64))), (g18, ([f0, f1, fz (p2.tmod 1024), fz (p3.tmod 1024)].map (Value.float .f64)))])) W3 ?_
  clear W3 st0 st1 LT
  intro wm hW
  have IMM : Hid (IM (mzL M 1024) (zT M 1024) 1023) := Lib.hid (zT_IM HM.out.1 1024 (by decide))
  have IMN : Hid (IM (mzL N 1024) (zT N 1024) 1023) := Lib.hid (zT_IM HN.out.1 1024 (by decide))
  have r0 : ∀ w', Below wm.heap.size wm w' → w'.rangeAt (w.heap.size) 0 V := fun w' hw => ((hW.out.below hw).k 0 _ _ rfl).r
  have r1 : ∀ w', Below wm.heap.size wm w' → w'.rangeAt b16 0 ((mzL M 1024).map (Value.float .f64)) := fun w' hw => ((hW.out.below hw).k 1 _ _ rfl).r
  have r2 : ∀ w', Below wm.heap.size wm w' → w'.rangeAt b17 0 ((mzL N 1024).map (Value.float .f64)) := fun w' hw => ((hW.out.below hw).k 2 _ _ rfl).r
  have r3 : ∀ w', Below wm.heap.size wm w' → w'.rangeAt g18 0 ([f0, f1, fz (p2.tmod 1024), fz (p3.tmod 1024)].map (Value.float .f64)) := fun w' hw => ((hW.out.below hw).k 3 _ _ rfl).r
  refine wp_region_rel 19 (fun w' => Below wm.heap.size wm w') (GW (detZ (zT M 1024))) (by kernel_rfl) (by kernel_rfl) ((Below.refl _ _).drew) ?_
  simp only [List.take_succ_cons, List.take_zero, List.drop_succ_cons, List.drop_zero]
  refine rel_load_row (b16) 0 ((mzL M 1024).map (Value.float .f64)) _ rfl rfl (fun w' hw => r1 w' hw) Try.underlying80 rfl (size80L _ IMM.out.mu.1) ?_
  simp only [Act.put, List.setIfInBounds_toArray, List.set_cons_succ, List.set_cons_zero]
  refine rel_call (f := 103) (args := #[.agg ((mzL M 1024).map (Value.float .f64)).toArray]) rfl (fun w' hw => by go_simp) (fun w' hw => (w103 (detZ (zT M 1024)) IMM.out.mu w').mono fun e w'' ⟨v, h1, h2, h3⟩ => ⟨v, h1, h2, below_trans hw h3⟩) (fun v hv => ?_)
  obtain ⟨d0, rfl, hd0⟩ := (show Q103 _ v from hv) _ rfl
  simp only [Act.put, List.setIfInBounds_toArray, List.set_cons_succ, List.set_cons_zero]
  refine rel_load_row (b16) 0 ((mzL M 1024).map (Value.float .f64)) _ rfl rfl (fun w' hw => r1 w' hw) Try.underlying80 rfl (size80L _ IMM.out.mu.1) ?_
  simp only [Act.put, List.setIfInBounds_toArray, List.set_cons_succ, List.set_cons_zero]
  refine rel_call (f := 125) (args := #[.agg ((mzL M 1024).map (Value.float .f64)).toArray]) rfl (fun w' hw => by go_simp) (fun w' hw => (w125 IMM.out (by decide) w').mono fun e w'' ⟨v, h1, h2, h3⟩ => ⟨v, h1, h2, below_trans hw h3⟩) (fun v hv => ?_)
  obtain rfl : v = .int .i64 (detZ (zT M 1024)) := hv
  simp only [Act.put, List.setIfInBounds_toArray, List.set_cons_succ, List.set_cons_zero]
  refine rel_val (v := .float .f64 (fz (detZ (zT M 1024)))) rfl (fun w' hw => by have e : floatOfInt .f64 (detZ (zT M 1024)) = fz (detZ (zT M 1024)) := rfl; go_simp) ?_
  simp only [Act.put, List.setIfInBounds_toArray, List.set_cons_succ, List.set_cons_zero]
  refine rel_val (v := .bool false) rfl (fun w' hw => by go_simp; exact eq_of_beq (det_eq IMM.out (by decide) hd0)) ?_
  simp only [Act.put, List.setIfInBounds_toArray, List.set_cons_succ, List.set_cons_zero]
  refine rel_move (v := .bool false) rfl rfl ?_
  simp only [Act.put, List.setIfInBounds_toArray, List.set_cons_succ, List.set_cons_zero]
  refine rel_load_row (b16) 0 ((mzL M 1024).map (Value.float .f64)) _ rfl rfl (fun w' hw => r1 w' hw) Try.underlying80 rfl (size80L _ IMM.out.mu.1) ?_
  simp only [Act.put, List.setIfInBounds_toArray, List.set_cons_succ, List.set_cons_zero]
  refine rel_load_row (b17) 0 ((mzL N 1024).map (Value.float .f64)) _ rfl rfl (fun w' hw => r2 w' hw) Try.underlying80 rfl (size80L _ IMN.out.mu.1) ?_
  simp only [Act.put, List.setIfInBounds_toArray, List.set_cons_succ, List.set_cons_zero]
  refine rel_call (f := 99) (args := #[.agg ((mzL M 1024).map (Value.float .f64)).toArray, .agg ((mzL N 1024).map (Value.float .f64)).toArray]) rfl (fun w' hw => by go_simp) (fun w' hw => (w99 (detZ (zT M 1024)) IMM.out.mu IMN.out.mu w').mono fun e w'' ⟨v, h1, h2, h3⟩ => ⟨v, h1, h2, below_trans hw h3⟩) (fun v hv => ?_)
  obtain ⟨o1, rfl, ho1, hp1⟩ := (show Q99 _ v from hv) _ _ rfl
  simp only [Act.put, List.setIfInBounds_toArray, List.set_cons_succ, List.set_cons_zero]
  refine rel_load_row (g18) 0 ([f0, f1, fz (p2.tmod 1024), fz (p3.tmod 1024)].map (Value.float .f64)) _ rfl rfl (fun w' hw => r3 w' hw) Try.underlying60 rfl size60 ?_
  simp only [Act.put, List.setIfInBounds_toArray, List.set_cons_succ, List.set_cons_zero]
  refine rel_call (f := 101) (args := #[.agg (o1.map (Value.float .f64)).toArray, .agg #[.float .f64 f0, .float .f64 f1, .float .f64 (fz (p2.tmod 1024)), .float .f64 (fz (p3.tmod 1024))]]) rfl (fun w' hw => by go_simp) (fun w' hw => (w101 (detZ (zT M 1024)) ho1 HF.out.1.1 HF.out.2.1 (fz_U _) (fz_U _) w').mono fun e w'' ⟨v, h1, h2, h3⟩ => ⟨v, h1, h2, below_trans hw h3⟩) (fun v hv => ?_)
  obtain ⟨r0_, r1_, r2_, r3_, rfl, hr0, hr1, hr2, hr3⟩ := (show Q101 _ v from hv) _ _ _ _ _ rfl
  simp only [Act.put, List.setIfInBounds_toArray, List.set_cons_succ, List.set_cons_zero]
  refine rel_load_row (b16) 0 ((mzL M 1024).map (Value.float .f64)) _ rfl rfl (fun w' hw => r1 w' hw) Try.underlying80 rfl (size80L _ IMM.out.mu.1) ?_
  simp only [Act.put, List.setIfInBounds_toArray, List.set_cons_succ, List.set_cons_zero]
  refine rel_load_row (b17) 0 ((mzL N 1024).map (Value.float .f64)) _ rfl rfl (fun w' hw => r2 w' hw) Try.underlying80 rfl (size80L _ IMN.out.mu.1) ?_
  simp only [Act.put, List.setIfInBounds_toArray, List.set_cons_succ, List.set_cons_zero]
  refine rel_load_row (g18) 0 ([f0, f1, fz (p2.tmod 1024), fz (p3.tmod 1024)].map (Value.float .f64)) _ rfl rfl (fun w' hw => r3 w' hw) Try.underlying60 rfl size60 ?_
  simp only [Act.put, List.setIfInBounds_toArray, List.set_cons_succ, List.set_cons_zero]
  refine rel_call (f := 101) (args := #[.agg ((mzL N 1024).map (Value.float .f64)).toArray, .agg #[.float .f64 f0, .float .f64 f1, .float .f64 (fz (p2.tmod 1024)), .float .f64 (fz (p3.tmod 1024))]]) rfl (fun w' hw => by go_simp) (fun w' hw => (w101 (detZ (zT M 1024)) IMN.out.mu HF.out.1.1 HF.out.2.1 (fz_U _) (fz_U _) w').mono fun e w'' ⟨v, h1, h2, h3⟩ => ⟨v, h1, h2, below_trans hw h3⟩) (fun v hv => ?_)
  obtain ⟨s0_, s1_, s2_, s3_, rfl, hs0, hs1, hs2, hs3⟩ := (show Q101 _ v from hv) _ _ _ _ _ rfl
  simp only [Act.put, List.setIfInBounds_toArray, List.set_cons_succ, List.set_cons_zero]
  refine rel_call (f := 101) (args := #[.agg ((mzL M 1024).map (Value.float .f64)).toArray, .agg #[.float .f64 s0_, .float .f64 s1_, .float .f64 s2_, .float .f64 s3_]]) rfl (fun w' hw => by go_simp) (fun w' hw => (w101 (detZ (zT M 1024)) IMM.out.mu hs0.1 hs1.1 hs2.1 hs3.1 w').mono fun e w'' ⟨v, h1, h2, h3⟩ => ⟨v, h1, h2, below_trans hw h3⟩) (fun v hv => ?_)
  obtain ⟨t0_, t1_, t2_, t3_, rfl, ht0, ht1, ht2, ht3⟩ := (show Q101 _ v from hv) _ _ _ _ _ rfl
  simp only [Act.put, List.setIfInBounds_toArray, List.set_cons_succ, List.set_cons_zero]
  have TW := twice_eq IMM.out IMN.out ho1 hp1 (small_place HF.out.1.2 (by decide)) (small_place HF.out.2.2 (by decide)) (rem_place p2) (rem_place p3) hs0 hs1 hs2 hs3 hr0 hr1 hr2 hr3 ht0 ht1 ht2 ht3
  refine rel_val (v := .bool false) rfl (fun w' hw => by have h0 := eqF2 w' r0_ t0_ TW.1; have h1 := eqF2 w' r1_ t1_ TW.2.1; have h2 := eqF2 w' r2_ t2_ TW.2.2.1; have h3 := eqF2 w' r3_ t3_ TW.2.2.2; go_simp) ?_
  simp only [Act.put, List.setIfInBounds_toArray, List.set_cons_succ, List.set_cons_zero]
  refine rel_pick_f (v := .bool false) rfl rfl rfl ?_
  simp only [Act.put, List.setIfInBounds_toArray, List.set_cons_succ, List.set_cons_zero]
  refine rel_nil ?_
  intro w3 hB3
  have W3 := Lib.hid (hW.out.below hB3)
  clear hB3 hW r0 r1 r2 r3 TW hr0 hr1 hr2 hr3 hs0 hs1 hs2 hs3 ht0 ht1 ht2 ht3 hd0 ho1 hp1
  go_upto_region 15 with fail
  refine wp_gen (fun wx => Hid (Mem w wx [(w.heap.size, V), (b16, ((mzL M 1024).map (Value.float .f64))), (b17, ((mzL N 1024).map (Value.float .f64))), (g18, ([f0, f1, fz (p2.tmod 1024), fz (p3.tmod 1024)].map (Value.float .f64)))])) W3 ?_
  clear W3 HF
  intro wn hW
  have r0 : ∀ w', Below wn.heap.size wn w' → w'.rangeAt (w.heap.size) 0 V := fun w' hw => ((hW.out.below hw).k 0 _ _ rfl).r
  have r1 : ∀ w', Below wn.heap.size wn w' → w'.rangeAt b16 0 ((mzL M 1024).map (Value.float .f64)) := fun w' hw => ((hW.out.below hw).k 1 _ _ rfl).r
  have r2 : ∀ w', Below wn.heap.size wn w' → w'.rangeAt b17 0 ((mzL N 1024).map (Value.float .f64)) := fun w' hw => ((hW.out.below hw).k 2 _ _ rfl).r
  have r3 : ∀ w', Below wn.heap.size wn w' → w'.rangeAt g18 0 ([f0, f1, fz (p2.tmod 1024), fz (p3.tmod 1024)].map (Value.float .f64)) := fun w' hw => ((hW.out.below hw).k 3 _ _ rfl).r
  refine RB.wp_region_alloc 8 (RB.D2 19 20 16) (GW 0) (by kernel_rfl) (by kernel_rfl) (fun t n h => by rcases RB.D2_or h with rfl | rfl <;> rfl) ?_
  simp only [List.take_succ_cons, List.take_zero, List.drop_succ_cons, List.drop_zero]
  refine RB.rel_val (v := .pointer (some ⟨w.heap.size, 12, none⟩)) rfl rfl (fun w' hw => by go_simp) ?_
  simp only [Act.put, List.setIfInBounds_toArray, List.set_cons_succ, List.set_cons_zero]
  refine RB.rel_load_row (w.heap.size) 12 (M.map (Value.int .i16)) _ rfl rfl rfl (fun w' hw => (SRC.out w' (r0 w' hw)).2.2.2.1) Try.underlying121 rfl (size121L M HM.out.1) ?_
  simp only [Act.put, List.setIfInBounds_toArray, List.set_cons_succ, List.set_cons_zero]
  refine RB.rel_call (f := 123) (args := #[.agg (M.map (Value.int .i16)).toArray, .int .i16 17]) rfl rfl (fun w' hw => by go_simp) (fun w' hw => w123 0 HM.out.1 HM.out.2 17 (by decide) 17 rfl w') (fun v hv => ?_)
  obtain rfl := (show Q123 _ v from hv) M 17 rfl
  simp only [Act.put, List.setIfInBounds_toArray, List.set_cons_succ, List.set_cons_zero]
  refine RB.rel_val (v := .pointer (some ⟨w.heap.size, 28, none⟩)) rfl rfl (fun w' hw => by go_simp) ?_
  simp only [Act.put, List.setIfInBounds_toArray, List.set_cons_succ, List.set_cons_zero]
  refine RB.rel_load_row (w.heap.size) 28 (N.map (Value.int .i16)) _ rfl rfl rfl (fun w' hw => (SRC.out w' (r0 w' hw)).2.2.2.2) Try.underlying121 rfl (size121L N HN.out.1) ?_
  simp only [Act.put, List.setIfInBounds_toArray, List.set_cons_succ, List.set_cons_zero]
  refine RB.rel_call (f := 123) (args := #[.agg (N.map (Value.int .i16)).toArray, .int .i16 17]) rfl rfl (fun w' hw => by go_simp) (fun w' hw => w123 0 HN.out.1 HN.out.2 17 (by decide) 17 rfl w') (fun v hv => ?_)
  obtain rfl := (show Q123 _ v from hv) N 17 rfl
  simp only [Act.put, List.setIfInBounds_toArray, List.set_cons_succ, List.set_cons_zero]
  refine RB.rel_alloc 16 Z16 rfl rfl rfl (fun w' => by go_simp; rfl) (fun b19 => ?_)
  simp only [Act.put, List.setIfInBounds_toArray, List.set_cons_succ, List.set_cons_zero]
  refine RB.rel_alloc 16 Z16 rfl rfl rfl (fun w' => by go_simp; rfl) (fun b20 => ?_)
  simp only [Act.put, List.setIfInBounds_toArray, List.set_cons_succ, List.set_cons_zero]
  refine RB.rel_nil ?_
  intro w3 hB3 hI
  have hx := hI.at (t := 19) (b := b19) rfl rfl
  have hy := hI.at (t := 20) (b := b20) rfl rfl
  have hne := hI.ne (t := 19) (t' := 20) (b := b19) (b' := b20) (by decide) rfl rfl rfl rfl
  have W3 : Hid (Mem w ((w3.setCells b19 0 ((mzL M 17).map (Value.float .f64))).setCells b20 0 ((mzL N 17).map (Value.float .f64))) ([(w.heap.size, V), (b16, ((mzL M 1024).map (Value.float .f64))), (b17, ((mzL N 1024).map (Value.float .f64))), (g18, ([f0, f1, fz (p2.tmod 1024), fz (p3.tmod 1024)].map (Value.float .f64)))] ++ [(b19, ((mzL M 17).map (Value.float .f64)))] ++ [(b20, ((mzL N 17).map (Value.float .f64)))])) := Lib.hid (mem_two hW.out hB3 hx hy hne (lenMZ M 17 HM.out.1) (lenMZ N 17 HN.out.1))
  have Tx : Hid (w3.there b19 0 ((mzL M 17).map (Value.float .f64)).toArray.size) := Lib.hid (by have h := hx.2.2; rwa [← show ((mzL M 17).map (Value.float .f64)).toArray.size = 16 by exact lenMZ M 17 HM.out.1] at h)
  have Ty : Hid ((w3.setCells b19 0 ((mzL M 17).map (Value.float .f64))).there b20 0 ((mzL N 17).map (Value.float .f64)).toArray.size) := Lib.hid (World.there_setCells (by have h := hy.2.2; rwa [← show ((mzL N 17).map (Value.float .f64)).toArray.size = 16 by exact lenMZ N 17 HN.out.1] at h) _ _ _)
  have Ex : Hid ((Try.prog.info? 80).map (·.size) = some ((mzL M 17).map (Value.float .f64)).toArray.size) := Lib.hid (by rw [show ((mzL M 17).map (Value.float .f64)).toArray.size = 16 by exact lenMZ M 17 HM.out.1]; exact size80)
  have Ey : Hid ((Try.prog.info? 80).map (·.size) = some ((mzL N 17).map (Value.float .f64)).toArray.size) := Lib.hid (by rw [show ((mzL N 17).map (Value.float .f64)).toArray.size = 16 by exact lenMZ N 17 HN.out.1]; exact size80)
  clear hx hy hne hB3 hI hW r0 r1 r2 r3
  go_upto_region 16 with (first
    | (refine wpList_store_mid rfl 80 (.tmp 19) (.tmp 154) rfl b19 0 ((mzL M 17).map (Value.float .f64)).toArray rfl rfl Tx.out Ex.out (oneF _) ?_)
    | (refine wpList_store_mid rfl 80 (.tmp 20) (.tmp 157) rfl b20 0 ((mzL N 17).map (Value.float .f64)).toArray rfl rfl Ty.out Ey.out (oneF _) ?_))
  refine wp_gen (fun wx => Hid (Mem w wx [(w.heap.size, V), (b16, ((mzL M 1024).map (Value.float .f64))), (b17, ((mzL N 1024).map (Value.float .f64))), (g18, ([f0, f1, fz (p2.tmod 1024), fz (p3.tmod 1024)].map (Value.float .f64))), (b19, ((mzL M 17).map (Value.float .f64))), (b20, ((mzL N 17).map (Value.float .f64)))])) W3 ?_
  clear W3 Tx Ty Ex Ey
  intro wo hW
  have JMM : Hid (IM (mzL M 17) (zT M 17) 16) := Lib.hid (zT_IM HM.out.1 17 (by decide))
  have JMN : Hid (IM (mzL N 17) (zT N 17) 16) := Lib.hid (zT_IM HN.out.1 17 (by decide))
  have r0 : ∀ w', Below wo.heap.size wo w' → w'.rangeAt (w.heap.size) 0 V := fun w' hw => ((hW.out.below hw).k 0 _ _ rfl).r
  have r1 : ∀ w', Below wo.heap.size wo w' → w'.rangeAt b16 0 ((mzL M 1024).map (Value.float .f64)) := fun w' hw => ((hW.out.below hw).k 1 _ _ rfl).r
  have r2 : ∀ w', Below wo.heap.size wo w' → w'.rangeAt b17 0 ((mzL N 1024).map (Value.float .f64)) := fun w' hw => ((hW.out.below hw).k 2 _ _ rfl).r
  have r3 : ∀ w', Below wo.heap.size wo w' → w'.rangeAt g18 0 ([f0, f1, fz (p2.tmod 1024), fz (p3.tmod 1024)].map (Value.float .f64)) := fun w' hw => ((hW.out.below hw).k 3 _ _ rfl).r
  have r4 : ∀ w', Below wo.heap.size wo w' → w'.rangeAt b19 0 ((mzL M 17).map (Value.float .f64)) := fun w' hw => ((hW.out.below hw).k 4 _ _ rfl).r
  have r5 : ∀ w', Below wo.heap.size wo w' → w'.rangeAt b20 0 ((mzL N 17).map (Value.float .f64)) := fun w' hw => ((hW.out.below hw).k 5 _ _ rfl).r
  refine wp_region_rel 10 (fun w' => Below wo.heap.size wo w') (GW 0) (by kernel_rfl) (by kernel_rfl) ((Below.refl _ _).drew) ?_
  simp only [List.take_succ_cons, List.take_zero, List.drop_succ_cons, List.drop_zero]
  refine rel_load_row (b19) 0 ((mzL M 17).map (Value.float .f64)) _ rfl rfl (fun w' hw => r4 w' hw) Try.underlying80 rfl (size80L _ JMM.out.mu.1) ?_
  simp only [Act.put, List.setIfInBounds_toArray, List.set_cons_succ, List.set_cons_zero]
  refine rel_load_row (b20) 0 ((mzL N 17).map (Value.float .f64)) _ rfl rfl (fun w' hw => r5 w' hw) Try.underlying80 rfl (size80L _ JMN.out.mu.1) ?_
  simp only [Act.put, List.setIfInBounds_toArray, List.set_cons_succ, List.set_cons_zero]
  refine rel_call (f := 99) (args := #[.agg ((mzL M 17).map (Value.float .f64)).toArray, .agg ((mzL N 17).map (Value.float .f64)).toArray]) rfl (fun w' hw => by go_simp) (fun w' hw => (w99 0 JMM.out.mu JMN.out.mu w').mono fun e w'' ⟨v, h1, h2, h3⟩ => ⟨v, h1, h2, below_trans hw h3⟩) (fun v hv => ?_)
  obtain ⟨o2, rfl, ho2, hp2⟩ := (show Q99 _ v from hv) _ _ rfl
  simp only [Act.put, List.setIfInBounds_toArray, List.set_cons_succ, List.set_cons_zero]
  refine rel_call (f := 103) (args := #[.agg (o2.map (Value.float .f64)).toArray]) rfl (fun w' hw => by go_simp) (fun w' hw => (w103 0 ho2 w').mono fun e w'' ⟨v, h1, h2, h3⟩ => ⟨v, h1, h2, below_trans hw h3⟩) (fun v hv => ?_)
  obtain ⟨d1, rfl, hd1⟩ := (show Q103 _ v from hv) _ rfl
  simp only [Act.put, List.setIfInBounds_toArray, List.set_cons_succ, List.set_cons_zero]
  refine rel_load_row (b19) 0 ((mzL M 17).map (Value.float .f64)) _ rfl rfl (fun w' hw => r4 w' hw) Try.underlying80 rfl (size80L _ JMM.out.mu.1) ?_
  simp only [Act.put, List.setIfInBounds_toArray, List.set_cons_succ, List.set_cons_zero]
  refine rel_call (f := 103) (args := #[.agg ((mzL M 17).map (Value.float .f64)).toArray]) rfl (fun w' hw => by go_simp) (fun w' hw => (w103 0 JMM.out.mu w').mono fun e w'' ⟨v, h1, h2, h3⟩ => ⟨v, h1, h2, below_trans hw h3⟩) (fun v hv => ?_)
  obtain ⟨d2, rfl, hd2⟩ := (show Q103 _ v from hv) _ rfl
  simp only [Act.put, List.setIfInBounds_toArray, List.set_cons_succ, List.set_cons_zero]
  refine rel_load_row (b20) 0 ((mzL N 17).map (Value.float .f64)) _ rfl rfl (fun w' hw => r5 w' hw) Try.underlying80 rfl (size80L _ JMN.out.mu.1) ?_
  simp only [Act.put, List.setIfInBounds_toArray, List.set_cons_succ, List.set_cons_zero]
  refine rel_call (f := 103) (args := #[.agg ((mzL N 17).map (Value.float .f64)).toArray]) rfl (fun w' hw => by go_simp) (fun w' hw => (w103 0 JMN.out.mu w').mono fun e w'' ⟨v, h1, h2, h3⟩ => ⟨v, h1, h2, below_trans hw h3⟩) (fun v hv => ?_)
  obtain ⟨d3, rfl, hd3⟩ := (show Q103 _ v from hv) _ rfl
  simp only [Act.put, List.setIfInBounds_toArray, List.set_cons_succ, List.set_cons_zero]
  refine rel_fop (w0 := wo) (op := .mul) rfl rfl rfl hd2 hd3 rfl ?_
  intro d4 hd4
  simp only [Act.put, List.setIfInBounds_toArray, List.set_cons_succ, List.set_cons_zero]
  refine rel_val (v := .bool false) rfl (fun w' hw => by go_simp; exact eq_of_beq (dets_eq JMM.out JMN.out ho2 hp2 hd1 hd4)) ?_
  simp only [Act.put, List.setIfInBounds_toArray, List.set_cons_succ, List.set_cons_zero]
  refine rel_nil ?_
  intro w3 hB3
  have W3 := Lib.hid (hW.out.below hB3)
  clear hB3 hW r0 r1 r2 r3 r4 r5 hd1 hd2 hd3 hd4 ho2 hp2
  go_upto_region 18 with fail
  refine wp_gen (fun wx => Hid (Mem w wx [(w.heap.size, V), (b16, ((mzL M 1024).map (Value.float .f64)))])) (Lib.hid (mem_head2 W3.out)) ?_
  clear W3 JMM JMN
  intro wp hW
  have E0 := Lib.hid (size80L _ IMM.out.mu.1)
  by_cases hd : (detZ (zT M 1024)) = 0
  · skip
    have hok : invOk (detP (mp (mzL M 1024))) = false := (inv_ok IMM.out (by decide)).trans (decide_eq_false (fun h => h hd))
    have HK := Lib.hid hok
    have HD := Lib.hid hd
    clear hok hd
    have RA := Lib.hid ((hW.out.k 1 _ _ rfl).r)
    go_wp2_with (refine wpList_load_mid rfl 80 (.tmp 16) rfl b16 0 rfl ((mzL M 1024).map (Value.float .f64)) _ RA.out Try.underlying80 rfl E0.out ?_)
    refine (k97 IMM.out.mu _).mono ?_
    rintro e w4 ⟨⟨iv, rfl, hu, hp⟩, h4⟩
    rw [HK.out] at hp ⊢
    have HU := Lib.hid (And.intro hu hp)
    have hl := hu.1
    have W4 : Hid (Mem w _ [(w.heap.size, V), (b16, ((mzL M 1024).map (Value.float .f64))), (w4.heap.size, (iv.map (Value.float .f64)))]) := Lib.hid (mem_new (hW.out.below h4) Z16 80 (iv.map (Value.float .f64)) (by rw [List.length_map, hl]; rfl))
    have N4 := Lib.hid (thereA (there_new w4 Z16 80 16 rfl) hl)
    have E4 := Lib.hid (size80A iv hl)
    have O4 := Lib.hid (one16 iv)
    clear hu hp hl h4 hW RA
    go_upto_region 19 with (refine wpList_store_mid rfl 80 (.tmp 21) (.tmp 171) rfl w4.heap.size 0 (iv.map (Value.float .f64)).toArray rfl rfl N4.out E4.out O4.out ?_)
    refine wp_gen (fun wx => Hid (Mem w wx [(w.heap.size, V), (b16, ((mzL M 1024).map (Value.float .f64))), (w4.heap.size, (iv.map (Value.float .f64)))])) W4 ?_
    clear W4 N4 E4 O4
    intro wq hW
    generalize w4.heap.size = g21 at *
    have E1 := Lib.hid (size80L _ HU.out.1.1)
    have RA := Lib.hid ((hW.out.k 1 _ _ rfl).r)
    go_wp2_with (refine wpList_load_mid rfl 80 (.tmp 16) rfl b16 0 rfl ((mzL M 1024).map (Value.float .f64)) _ RA.out Try.underlying80 rfl E0.out ?_)
    refine (k125 IMM.out (by decide) _).mono ?_
    rintro e wr ⟨rfl, hb⟩
    have hd := HD.out
    have W5 := Lib.hid (hW.out.below hb)
    clear hW hb RA
    go_upto_region 21 with fail
    refine wp_gen (fun wx => Hid (Mem w wx [(w.heap.size, V), (b16, ((mzL M 1024).map (Value.float .f64))), (g21, (iv.map (Value.float .f64)))])) W5 ?_
    clear W5 hd
    intro ws hW
    have RA := Lib.hid ((hW.out.k 1 _ _ rfl).r)
    go_wp2_with (refine wpList_load_mid rfl 80 (.tmp 16) rfl b16 0 rfl ((mzL M 1024).map (Value.float .f64)) _ RA.out Try.underlying80 rfl E0.out ?_)
    refine (k125 IMM.out (by decide) _).mono ?_
    rintro e wr ⟨rfl, hb⟩
    have W5 := Lib.hid (hW.out.below hb)
    clear hW hb RA
    go_wp2_with fail
    refine (k126 _ _ (by have := det_le IMM.out (show 1023 ≤ 1024 by decide); omega)).mono ?_
    rintro e wt ⟨rfl, rfl⟩
    rw [HD.out, show isPow 0 = false from by decide]
    go_wp2_with fail
    go_ret
    exact ⟨rfl, W5.out.b⟩
  · skip
    have hok : invOk (detP (mp (mzL M 1024))) = true := (inv_ok IMM.out (by decide)).trans (decide_eq_true hd)
    have HK := Lib.hid hok
    have HD := Lib.hid hd
    clear hok hd
    have RA := Lib.hid ((hW.out.k 1 _ _ rfl).r)
    go_wp2_with (refine wpList_load_mid rfl 80 (.tmp 16) rfl b16 0 rfl ((mzL M 1024).map (Value.float .f64)) _ RA.out Try.underlying80 rfl E0.out ?_)
    refine (k97 IMM.out.mu _).mono ?_
    rintro e w4 ⟨⟨iv, rfl, hu, hp⟩, h4⟩
    rw [HK.out] at hp ⊢
    have HU := Lib.hid (And.intro hu hp)
    have hl := hu.1
    have W4 : Hid (Mem w _ [(w.heap.size, V), (b16, ((mzL M 1024).map (Value.float .f64))), (w4.heap.size, (iv.map (Value.float .f64)))]) := Lib.hid (mem_new (hW.out.below h4) Z16 80 (iv.map (Value.float .f64)) (by rw [List.length_map, hl]; rfl))
    have N4 := Lib.hid (thereA (there_new w4 Z16 80 16 rfl) hl)
    have E4 := Lib.hid (size80A iv hl)
    have O4 := Lib.hid (one16 iv)
    clear hu hp hl h4 hW RA
    go_upto_region 19 with (refine wpList_store_mid rfl 80 (.tmp 21) (.tmp 171) rfl w4.heap.size 0 (iv.map (Value.float .f64)).toArray rfl rfl N4.out E4.out O4.out ?_)
    refine wp_gen (fun wx => Hid (Mem w wx [(w.heap.size, V), (b16, ((mzL M 1024).map (Value.float .f64))), (w4.heap.size, (iv.map (Value.float .f64)))])) W4 ?_
    clear W4 N4 E4 O4
    intro wq hW
    generalize w4.heap.size = g21 at *
    have E1 := Lib.hid (size80L _ HU.out.1.1)
    have RA := Lib.hid ((hW.out.k 1 _ _ rfl).r)
    go_wp2_with (refine wpList_load_mid rfl 80 (.tmp 16) rfl b16 0 rfl ((mzL M 1024).map (Value.float .f64)) _ RA.out Try.underlying80 rfl E0.out ?_)
    refine (k125 IMM.out (by decide) _).mono ?_
    rintro e wr ⟨rfl, hb⟩
    have hd := HD.out
    have hd1 : decide ((detZ (zT M 1024)) = 0) = false := decide_eq_false hd
    have hd2 : ((detZ (zT M 1024)) == 0) = false := by rw [beq_eq_false_iff_ne]; exact hd
    have hd3 : ((detZ (zT M 1024)) != 0) = true := by rw [bne_iff_ne]; exact hd
    have W5 := Lib.hid (hW.out.below hb)
    clear hW hb RA
    go_upto_region 21 with fail
    refine wp_gen (fun wx => Hid (Mem w wx [(w.heap.size, V), (b16, ((mzL M 1024).map (Value.float .f64))), (g21, (iv.map (Value.float .f64)))])) W5 ?_
    clear W5 hd hd1 hd2 hd3
    intro ws hW
    have RA := Lib.hid ((hW.out.k 1 _ _ rfl).r)
    go_wp2_with (refine wpList_load_mid rfl 80 (.tmp 16) rfl b16 0 rfl ((mzL M 1024).map (Value.float .f64)) _ RA.out Try.underlying80 rfl E0.out ?_)
    refine (k125 IMM.out (by decide) _).mono ?_
    rintro e wr ⟨rfl, hb⟩
    have W5 := Lib.hid (hW.out.below hb)
    clear hW hb RA
    go_wp2_with fail
    refine (k126 _ _ (by have := det_le IMM.out (show 1023 ≤ 1024 by decide); omega)).mono ?_
    rintro e wt ⟨rfl, rfl⟩
    cases hpw : isPow (detZ (zT M 1024))
    · go_wp2_with fail
      go_ret
      exact ⟨rfl, W5.out.b⟩
    · obtain ⟨tt, htt⟩ := isPow_true hpw
      have HP2 := Lib.hid htt
      clear htt hpw
      have RA := Lib.hid ((W5.out.k 1 _ _ rfl).r)
      have RB_ := Lib.hid ((W5.out.k 2 _ _ rfl).r)
      go_wp2_with (first | (refine wpList_loadG rfl 80 (.tmp 16) rfl b16 0 rfl ((mzL M 1024).map (Value.float .f64)) _ RA.out Try.underlying80 rfl E0.out ?_) | (refine wpList_loadG rfl 80 (.tmp 21) rfl g21 0 rfl (iv.map (Value.float .f64)) _ RB_.out Try.underlying80 rfl E1.out ?_))
      refine (k99 IMM.out.mu HU.out.1 _).mono ?_
      rintro e w6 ⟨⟨o0, rfl, ho0, hp0⟩, hb⟩
      have W6 := Lib.hid (W5.out.below hb)
      have HO0 := Lib.hid (And.intro ho0 hp0)
      clear hb RA RB_ ho0 hp0 W5
      go_wp2_with fail
      refine (k87 _).mono ?_
      rintro e w7 ⟨rfl, hb⟩
      have W7 := Lib.hid (W6.out.below hb)
      clear hb W6
      go_wp2_with fail
      refine (k127 HO0.out.1 idL_MU (fun j hj => by rw [HO0.out.2 j hj]; exact undo_r IMM.out (by decide) HP2.out (fun i hi => (HU.out.2 i hi).trans (if_pos trivial)) j hj) _).mono ?_
      rintro e w8 ⟨rfl, hb⟩
      have W8 := Lib.hid (W7.out.below hb)
      clear hb W7
      have RA := Lib.hid ((W8.out.k 1 _ _ rfl).r)
      have RB_ := Lib.hid ((W8.out.k 2 _ _ rfl).r)
      go_wp2_with (first | (refine wpList_loadG rfl 80 (.tmp 16) rfl b16 0 rfl ((mzL M 1024).map (Value.float .f64)) _ RA.out Try.underlying80 rfl E0.out ?_) | (refine wpList_loadG rfl 80 (.tmp 21) rfl g21 0 rfl (iv.map (Value.float .f64)) _ RB_.out Try.underlying80 rfl E1.out ?_))
      refine (k99 HU.out.1 IMM.out.mu _).mono ?_
      rintro e w6 ⟨⟨o1, rfl, ho1, hp1⟩, hb⟩
      have W6 := Lib.hid (W8.out.below hb)
      have HO1 := Lib.hid (And.intro ho1 hp1)
      clear hb RA RB_ ho1 hp1 W8
      go_wp2_with fail
      refine (k87 _).mono ?_
      rintro e w7 ⟨rfl, hb⟩
      have W7 := Lib.hid (W6.out.below hb)
      clear hb W6
      go_wp2_with fail
      refine (k127 HO1.out.1 idL_MU (fun j hj => by rw [HO1.out.2 j hj]; exact undo_l IMM.out (by decide) HP2.out (fun i hi => (HU.out.2 i hi).trans (if_pos trivial)) j hj) _).mono ?_
      rintro e w8 ⟨rfl, hb⟩
      have W8 := Lib.hid (W7.out.below hb)
      clear hb W7
      go_wp2_with fail
      go_ret
      exact ⟨rfl, W8.out.b⟩
end Go.Proofs.Ytelalledjbeenaa
