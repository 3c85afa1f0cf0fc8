/- Same of two looks of one kind (printed by gen_st3.py). -/
import Derived.Test.YtphoggimeaejnaaGreatDoorStC
import Derived.Test.YtphoggimeaejnaaGreatDoorRelB
namespace Go.Proofs.YtphoggimeaejnaaGreatDoor
open Go.RowKit Fl

section
variable {P : Program} {ops : Array Oper} {C : World → Prop} {G : FuncId → Array Value → Value → Prop} {Q : Act → Prop} {rest : List Oper} {a : Act}
variable {dst : Option Tmp} {T : TypeId} {pos : String} {af : Array Edge} {gd : Option (Nat × Bool)}
/-- a whole row loaded in a region that draws its order -/
theorem rel_load_row {x : Operand} {ty : TypeId} (b o : Nat) (cs : List Value) (d : TypeDesc) (hx : a.eval x = .pointer (some ⟨b, o, none⟩)) (hw : Region.wanted ⟨dst, .load ty x, T, pos, af, gd⟩ (yielded ops a.tmps) = true)
    (hS : ∀ w, C w → w.rangeAt b o cs) (hu : P.underlying ty = some d) (hd : d.isRow = true) (hi : (P.info? ty).map (·.size) = some cs.length)
    (k : wpRel P ops C G Q rest (a.put dst (.agg cs.toArray))) : wpRel P ops C G Q (⟨dst, .load ty x, T, pos, af, gd⟩ :: rest) a :=
  rel_val hw (fun w hc => by
    unfold execOp
    simp only [hx, Instr.loadAt, Instr.sureAddr, Sem.run_bind, Sem.run_pure, Result.andThen_ok, run_loadVar_mid w b o ty cs d (hS w hc) hu hd hi]) k
theorem rel_loadF {x : Operand} (b o r : Nat) (hx : a.eval x = .pointer (some ⟨b, o, none⟩)) (hw : Region.wanted ⟨dst, .load 23 x, T, pos, af, gd⟩ (yielded ops a.tmps) = true)
    (hS : ∀ w, C w → w.cell? ⟨b, o, none⟩ = some (.float .f64 r)) (k : wpRel Tryz.prog ops C G Q rest (a.put dst (.float .f64 r))) : wpRel Tryz.prog ops C G Q (⟨dst, .load 23 x, T, pos, af, gd⟩ :: rest) a :=
  rel_val hw (fun w hc => by
    have h := hS w hc
    unfold execOp
    simp only [hx]
    go_simp) k
end
theorem wpList_load_g {P : Program} {ops : Array Oper} {rest : List Oper} {op : Oper} {a : Act} {w : World} {Q : Exit → Act → World → Prop} (hw : Region.wanted op (yielded ops a.tmps) = true) (ty : TypeId) (x : Operand) (ho : op.op = .load ty x)
    (b o : Nat) (hx : a.eval x = .pointer (some ⟨b, o, none⟩)) (cs : List Value) (d : TypeDesc) (hc : w.rangeAt b o cs)
    (hu : P.underlying ty = some d) (hd : d.isRow = true) (hi : (P.info? ty).map (·.size) = some cs.length)
    (h : wpList P ops Q rest (a.put op.dst (.agg cs.toArray)) w) : wpList P ops Q (op :: rest) a w :=
  wpList_step fun _ hK => by rw [if_pos hw]; exact wp_load_mid ty x ho b o hx cs d hc hu hd hi (hK _ _ h)
structure SI (g : Nat → Int) (f f' : Nat → Nat) (w wx : World) : Prop where
  r : wx.rangeAt w.heap.size 0 (lkC g f)
  r' : wx.rangeAt (w.heap.size + 1) 0 (lkC g f')
  b : Below w.heap.size w wx
  z : w.heap.size + 2 ≤ wx.heap.size
theorem SI.below {g : Nat → Int} {f f' : Nat → Nat} {w wx wy : World} (h : SI g f f' w wx) (hb : Below wx.heap.size wx wy) : SI g f f' w wy :=
  have := h.z
  ⟨range_below h.r hb (by omega), range_below h.r' hb (by omega), h.b.trans (hb.mono (by omega)), Nat.le_trans h.z hb.size⟩
theorem range_cell {W : World} {b j : Nat} {l : List Value} {v : Value} (h : W.rangeAt b 0 l) (e : l[j]? = some v) : W.cell? ⟨b, j, none⟩ = some v := by
  have := h j v e
  rwa [Nat.zero_add] at this
theorem range_two {W : World} {b j : Nat} {l : List Value} {x y : Value} (h : W.rangeAt b 0 l) (e : l[j]? = some x ∧ l[j + 1]? = some y) : W.rangeAt b j [x, y] := fun i v hi => by
  match i, hi with
  | 0, hi => cases hi; exact range_cell h e.1
  | 1, hi => cases hi; exact range_cell h e.2
  | i + 2, hi => simp at hi
theorem si_new (g : Nat → Int) (f f' : Nat → Nat) (w : World) : SI g f f' w ((w.alloc (.cells (lkC g f).toArray 31)).alloc (.cells (lkC g f').toArray 31)) := by
  have B0 := (Below.refl (w.heap.size + 1) (w.alloc (.cells (lkC g f).toArray 31))).alloc (by simp) (.cells (lkC g f').toArray 31)
  have T := range_new (w.alloc (.cells (lkC g f).toArray 31)) (lkC g f') 31
  rw [show (w.alloc (.cells (lkC g f).toArray 31)).heap.size = w.heap.size + 1 by simp] at T
  exact ⟨range_below (range_new w (lkC g f) 31) B0 (by omega), T, ((Below.refl _ _).alloc (Nat.le_refl _) _).alloc (by simp) _, by simp⟩
theorem lk_side (g : Nat → Int) (f : Nat → Nat) (k : Nat) (hk : k < 4) : ((lkC g f)[15 + k * 2]? = some (.float .f64 (f (15 + k * 2))) ∧ (lkC g f)[15 + k * 2 + 1]? = some (.int .i64 (g (15 + k * 2 + 1)))) ∧
    ((lkC g f)[23 + k * 2]? = some (.float .f64 (f (23 + k * 2))) ∧ (lkC g f)[23 + k * 2 + 1]? = some (.int .i64 (g (23 + k * 2 + 1)))) := by
  have : k = 0 ∨ k = 1 ∨ k = 2 ∨ k = 3 := by omega
  rcases this with rfl | rfl | rfl | rfl <;> exact ⟨⟨rfl, rfl⟩, rfl, rfl⟩
theorem lk_mat (g : Nat → Int) (f : Nat → Nat) (k : Nat) (hk : k < 16) : (lkC g f)[37 + k]? = some (.float .f64 (f (37 + k))) := by
  have : k = 0 ∨ k = 1 ∨ k = 2 ∨ k = 3 ∨ k = 4 ∨ k = 5 ∨ k = 6 ∨ k = 7 ∨ k = 8 ∨ k = 9 ∨ k = 10 ∨ k = 11 ∨ k = 12 ∨ k = 13 ∨ k = 14 ∨ k = 15 := by omega
  rcases this with rfl | rfl | rfl | rfl | rfl | rfl | rfl | rfl | rfl | rfl | rfl | rfl | rfl | rfl | rfl | rfl <;> rfl
theorem k9 {x y : Nat} (h : U x ∧ U y ∧ pl x = pl y) (w : World) : Calls Tryz.prog 9 #[.float .f64 x, .float .f64 y] w fun e w' => e = .returned (.bool true) ∧ w = w' :=
  (c9 x y w h.1 h.2.1).mono fun e w' ⟨h1, h2⟩ => ⟨by rw [h1, h.2.2, beq_self_eq_true], h2⟩
theorem k26 {x y : Nat} (u : Int) (h : U x ∧ U y ∧ pl x = pl y) (w : World) : Calls Tryz.prog 26 #[.agg #[.float .f64 x, .int .i64 u], .agg #[.float .f64 y, .int .i64 u]] w fun e w' => e = .returned (.bool true) ∧ Below w.heap.size w w' := c26 x y u w h.1 h.2.1 h.2.2
set_option maxRecDepth 100000 in
set_option maxHeartbeats 2000000 in
theorem c12 (g : Nat → Int) (f f' : Nat → Nat) (w : World) (hf : ∀ i, U (f i) ∧ U (f' i) ∧ pl (f i) = pl (f' i)) : Calls Tryz.prog 12 #[.agg (lkC g f).toArray, .agg (lkC g f').toArray] w fun e w' => e = .returned (.bool true) ∧ Below w.heap.size w w' := by
  have HF := Lib.hid hf
  have I := Lib.hid (si_new g f f' w)
  have S := Lib.hid size26
  clear hf
  go_enter Tryz.func12, Tryz.ntmps12
  go_upto_region 1 with fail
  obtain ⟨W1, hW1⟩ : ∃ W1, W1 = (w.alloc (.cells (lkC g f).toArray 31)).alloc (.cells (lkC g f').toArray 31) := ⟨_, rfl⟩
  rw [← hW1] at I
  show Code.wp _ _ _ _ ((w.alloc (.cells (lkC g f).toArray 31)).alloc (.cells (lkC g f').toArray 31))
  rw [← hW1]
  clear hW1
  have a0 := range_cell (j := 0) I.out.r rfl
  have b0 := range_cell (j := 0) I.out.r' rfl
  have a1 := range_cell (j := 1) I.out.r rfl
  have b1 := range_cell (j := 1) I.out.r' rfl
  have a2 := range_cell (j := 2) I.out.r rfl
  have b2 := range_cell (j := 2) I.out.r' rfl
  have a31 := range_cell (j := 31) I.out.r rfl
  have b31 := range_cell (j := 31) I.out.r' rfl
  have a32 := range_cell (j := 32) I.out.r rfl
  have b32 := range_cell (j := 32) I.out.r' rfl
  have a53 := range_cell (j := 53) I.out.r rfl
  have b53 := range_cell (j := 53) I.out.r' rfl
  have eg : (g 0 == g 0) = true := beq_self_eq_true _
  go_upto_region 2 with (go_at_call 9; refine (k9 (HF.out _) _).mono ?_; rintro e w2 ⟨rfl, rfl⟩)
  clear a0 b0 a1 b1 a2 b2 a31 b31 a32 b32 a53 b53 eg
  go_wp2_with (first
    | (go_at_call 26; refine (k26 _ (HF.out _) _).mono ?_; rintro e w2 ⟨rfl, hb⟩; replace I := Lib.hid (I.out.below hb); clear hb)
    | (refine wpList_load_g rfl 26 (.tmp 50) rfl w.heap.size 3 rfl [.float .f64 (f 3), .int .i64 (g 4)] _ (range_two I.out.r ⟨rfl, rfl⟩) Tryz.underlying26 rfl S.out ?_)
    | (refine wpList_load_g rfl 26 (.tmp 52) rfl (w.heap.size + 1) 3 rfl [.float .f64 (f' 3), .int .i64 (g 4)] _ (range_two I.out.r' ⟨rfl, rfl⟩) Tryz.underlying26 rfl S.out ?_)
    | (refine wpList_load_g rfl 26 (.tmp 57) rfl w.heap.size 5 rfl [.float .f64 (f 5), .int .i64 (g 6)] _ (range_two I.out.r ⟨rfl, rfl⟩) Tryz.underlying26 rfl S.out ?_)
    | (refine wpList_load_g rfl 26 (.tmp 59) rfl (w.heap.size + 1) 5 rfl [.float .f64 (f' 5), .int .i64 (g 6)] _ (range_two I.out.r' ⟨rfl, rfl⟩) Tryz.underlying26 rfl S.out ?_)
    | (refine wpList_load_g rfl 26 (.tmp 64) rfl w.heap.size 7 rfl [.float .f64 (f 7), .int .i64 (g 8)] _ (range_two I.out.r ⟨rfl, rfl⟩) Tryz.underlying26 rfl S.out ?_)
    | (refine wpList_load_g rfl 26 (.tmp 66) rfl (w.heap.size + 1) 7 rfl [.float .f64 (f' 7), .int .i64 (g 8)] _ (range_two I.out.r' ⟨rfl, rfl⟩) Tryz.underlying26 rfl S.out ?_)
    | (refine wpList_load_g rfl 26 (.tmp 71) rfl w.heap.size 9 rfl [.float .f64 (f 9), .int .i64 (g 10)] _ (range_two I.out.r ⟨rfl, rfl⟩) Tryz.underlying26 rfl S.out ?_)
    | (refine wpList_load_g rfl 26 (.tmp 73) rfl (w.heap.size + 1) 9 rfl [.float .f64 (f' 9), .int .i64 (g 10)] _ (range_two I.out.r' ⟨rfl, rfl⟩) Tryz.underlying26 rfl S.out ?_)
    | (refine wpList_load_g rfl 26 (.tmp 78) rfl w.heap.size 11 rfl [.float .f64 (f 11), .int .i64 (g 12)] _ (range_two I.out.r ⟨rfl, rfl⟩) Tryz.underlying26 rfl S.out ?_)
    | (refine wpList_load_g rfl 26 (.tmp 80) rfl (w.heap.size + 1) 11 rfl [.float .f64 (f' 11), .int .i64 (g 12)] _ (range_two I.out.r' ⟨rfl, rfl⟩) Tryz.underlying26 rfl S.out ?_)
    | (refine wpList_load_g rfl 26 (.tmp 85) rfl w.heap.size 13 rfl [.float .f64 (f 13), .int .i64 (g 14)] _ (range_two I.out.r ⟨rfl, rfl⟩) Tryz.underlying26 rfl S.out ?_)
    | (refine wpList_load_g rfl 26 (.tmp 87) rfl (w.heap.size + 1) 13 rfl [.float .f64 (f' 13), .int .i64 (g 14)] _ (range_two I.out.r' ⟨rfl, rfl⟩) Tryz.underlying26 rfl S.out ?_)
    | (refine wpList_load_g rfl 26 (.tmp 92) rfl w.heap.size 33 rfl [.float .f64 (f 33), .int .i64 (g 34)] _ (range_two I.out.r ⟨rfl, rfl⟩) Tryz.underlying26 rfl S.out ?_)
    | (refine wpList_load_g rfl 26 (.tmp 94) rfl (w.heap.size + 1) 33 rfl [.float .f64 (f' 33), .int .i64 (g 34)] _ (range_two I.out.r' ⟨rfl, rfl⟩) Tryz.underlying26 rfl S.out ?_)
    | (refine wpList_load_g rfl 26 (.tmp 99) rfl w.heap.size 35 rfl [.float .f64 (f 35), .int .i64 (g 36)] _ (range_two I.out.r ⟨rfl, rfl⟩) Tryz.underlying26 rfl S.out ?_)
    | (refine wpList_load_g rfl 26 (.tmp 101) rfl (w.heap.size + 1) 35 rfl [.float .f64 (f' 35), .int .i64 (g 36)] _ (range_two I.out.r' ⟨rfl, rfl⟩) Tryz.underlying26 rfl S.out ?_))
  go_loopw [5, 6] (fun x i wx => x = .bool true ∧ ∃ k : Nat, k ≤ 4 ∧ i = .int .i64 k ∧ Hid (SI g f f' w wx)) (fun _ i _ => 4 - (intOf i).toNat)
  case atStart => exact ⟨rfl, 0, by omega, rfl, I⟩
  case round =>
    obtain ⟨rfl, k, hk, rfl, hI⟩ := hrel
    clear I
    by_cases hlt : k < 4
    · have hki : (k : Int) < 4 := by omega
      have HLT := Lib.hid hlt
      have LA := Lib.hid (lk_side g f k hlt)
      have LB := Lib.hid (lk_side g f' k hlt)
      have k0 : (0 : Int) ≤ (k : Int) := by omega
      clear hlt
      go_wp2_with fail
      refine wp_region_rel 24 (SI g f f' w) (fun _ _ v => v = .bool true) (by kernel_rfl) (by kernel_rfl) (hI.out.below (Below.refl _ _).drew) ?_
      simp only [List.take_succ_cons, List.take_zero, List.drop_succ_cons, List.drop_zero]
      refine rel_move (v := .bool true) rfl rfl ?_
      simp only [Act.put, List.setIfInBounds_toArray, List.set_cons_succ, List.set_cons_zero]
      refine rel_move (v := .bool true) rfl rfl ?_
      simp only [Act.put, List.setIfInBounds_toArray, List.set_cons_succ, List.set_cons_zero]
      refine rel_move (v := .int .i64 (k : Int)) rfl rfl ?_
      simp only [Act.put, List.setIfInBounds_toArray, List.set_cons_succ, List.set_cons_zero]
      refine rel_val (v := .pointer (some ⟨w.heap.size, 15, none⟩)) rfl (fun w' hw => by go_simp) ?_
      simp only [Act.put, List.setIfInBounds_toArray, List.set_cons_succ, List.set_cons_zero]
      refine rel_val (v := .pointer (some ⟨w.heap.size, 15 + k * 2, none⟩)) rfl (fun w' hw => by go_simp) ?_
      simp only [Act.put, List.setIfInBounds_toArray, List.set_cons_succ, List.set_cons_zero]
      refine rel_load_row w.heap.size (15 + k * 2) [.float .f64 (f (15 + k * 2)), .int .i64 (g (15 + k * 2 + 1))] _ rfl rfl (fun w' hw => range_two hw.r LA.out.1) Tryz.underlying26 rfl S.out ?_
      simp only [Act.put, List.setIfInBounds_toArray, List.set_cons_succ, List.set_cons_zero]
      refine rel_move (v := .int .i64 (k : Int)) rfl rfl ?_
      simp only [Act.put, List.setIfInBounds_toArray, List.set_cons_succ, List.set_cons_zero]
      refine rel_val (v := .pointer (some ⟨w.heap.size + 1, 15, none⟩)) rfl (fun w' hw => by go_simp) ?_
      simp only [Act.put, List.setIfInBounds_toArray, List.set_cons_succ, List.set_cons_zero]
      refine rel_val (v := .pointer (some ⟨w.heap.size + 1, 15 + k * 2, none⟩)) rfl (fun w' hw => by go_simp) ?_
      simp only [Act.put, List.setIfInBounds_toArray, List.set_cons_succ, List.set_cons_zero]
      refine rel_load_row (w.heap.size + 1) (15 + k * 2) [.float .f64 (f' (15 + k * 2)), .int .i64 (g (15 + k * 2 + 1))] _ rfl rfl (fun w' hw => range_two hw.r' LB.out.1) Tryz.underlying26 rfl S.out ?_
      simp only [Act.put, List.setIfInBounds_toArray, List.set_cons_succ, List.set_cons_zero]
      refine rel_call (f := 26) (args := #[.agg #[.float .f64 (f (15 + k * 2)), .int .i64 (g (15 + k * 2 + 1))], .agg #[.float .f64 (f' (15 + k * 2)), .int .i64 (g (15 + k * 2 + 1))]]) rfl (fun w' hw => by go_simp) (fun w' hw => (k26 _ (HF.out _) w').mono fun e w'' ⟨he, hq⟩ => ⟨_, he, rfl, hw.below hq⟩) (fun v hv => ?_)
      obtain rfl : v = .bool true := hv
      simp only [Act.put, List.setIfInBounds_toArray, List.set_cons_succ, List.set_cons_zero]
      refine rel_pick_t (v := .bool true) rfl rfl rfl ?_
      simp only [Act.put, List.setIfInBounds_toArray, List.set_cons_succ, List.set_cons_zero]
      refine rel_move (v := .bool true) rfl rfl ?_
      simp only [Act.put, List.setIfInBounds_toArray, List.set_cons_succ, List.set_cons_zero]
      refine rel_move (v := .int .i64 (k : Int)) rfl rfl ?_
      simp only [Act.put, List.setIfInBounds_toArray, List.set_cons_succ, List.set_cons_zero]
      refine rel_val (v := .pointer (some ⟨w.heap.size, 23, none⟩)) rfl (fun w' hw => by go_simp) ?_
      simp only [Act.put, List.setIfInBounds_toArray, List.set_cons_succ, List.set_cons_zero]
      refine rel_val (v := .pointer (some ⟨w.heap.size, 23 + k * 2, none⟩)) rfl (fun w' hw => by go_simp) ?_
      simp only [Act.put, List.setIfInBounds_toArray, List.set_cons_succ, List.set_cons_zero]
      refine rel_load_row w.heap.size (23 + k * 2) [.float .f64 (f (23 + k * 2)), .int .i64 (g (23 + k * 2 + 1))] _ rfl rfl (fun w' hw => range_two hw.r LA.out.2) Tryz.underlying26 rfl S.out ?_
      simp only [Act.put, List.setIfInBounds_toArray, List.set_cons_succ, List.set_cons_zero]
      refine rel_move (v := .int .i64 (k : Int)) rfl rfl ?_
      simp only [Act.put, List.setIfInBounds_toArray, List.set_cons_succ, List.set_cons_zero]
      refine rel_val (v := .pointer (some ⟨w.heap.size + 1, 23, none⟩)) rfl (fun w' hw => by go_simp) ?_
      simp only [Act.put, List.setIfInBounds_toArray, List.set_cons_succ, List.set_cons_zero]
      refine rel_val (v := .pointer (some ⟨w.heap.size + 1, 23 + k * 2, none⟩)) rfl (fun w' hw => by go_simp) ?_
      simp only [Act.put, List.setIfInBounds_toArray, List.set_cons_succ, List.set_cons_zero]
      refine rel_load_row (w.heap.size + 1) (23 + k * 2) [.float .f64 (f' (23 + k * 2)), .int .i64 (g (23 + k * 2 + 1))] _ rfl rfl (fun w' hw => range_two hw.r' LB.out.2) Tryz.underlying26 rfl S.out ?_
      simp only [Act.put, List.setIfInBounds_toArray, List.set_cons_succ, List.set_cons_zero]
      refine rel_call (f := 26) (args := #[.agg #[.float .f64 (f (23 + k * 2)), .int .i64 (g (23 + k * 2 + 1))], .agg #[.float .f64 (f' (23 + k * 2)), .int .i64 (g (23 + k * 2 + 1))]]) rfl (fun w' hw => by go_simp) (fun w' hw => (k26 _ (HF.out _) w').mono fun e w'' ⟨he, hq⟩ => ⟨_, he, rfl, hw.below hq⟩) (fun v hv => ?_)
      obtain rfl : v = .bool true := hv
      simp only [Act.put, List.setIfInBounds_toArray, List.set_cons_succ, List.set_cons_zero]
      refine rel_pick_t (v := .bool true) rfl rfl rfl ?_
      simp only [Act.put, List.setIfInBounds_toArray, List.set_cons_succ, List.set_cons_zero]
      refine rel_assign (v := .bool true) rfl rfl ?_
      simp only [Act.put, List.setIfInBounds_toArray, List.set_cons_succ, List.set_cons_zero]
      refine rel_nil ?_
      intro w3 hI3
      have I3 := Lib.hid hI3
      clear hI3 hI LA LB
      go_wp2
      go_roundw
      case rel => exact ⟨rfl, k + 1, by have := HLT.out; omega, by go_num, I3⟩
      case measure => have := HLT.out; simp [intOf]; omega
    · have hki : ¬ (k : Int) < 4 := by omega
      clear hlt
      go_wp2_with fail
      go_loopw [5, 7] (fun x i wx => x = .bool true ∧ ∃ k : Nat, k ≤ 16 ∧ i = .int .i64 k ∧ Hid (SI g f f' w wx)) (fun _ i _ => 16 - (intOf i).toNat)
      case atStart => exact ⟨rfl, 0, by omega, rfl, hI⟩
      case round =>
        obtain ⟨rfl, k, hk, rfl, hI⟩ := hrel
        by_cases hlt : k < 16
        · have hki : (k : Int) < 16 := by omega
          have HLT := Lib.hid hlt
          have LA := Lib.hid (lk_mat g f k hlt)
          have LB := Lib.hid (lk_mat g f' k hlt)
          have k0 : (0 : Int) ≤ (k : Int) := by omega
          clear hlt
          go_wp2_with fail
          refine wp_region_rel 13 (SI g f f' w) (fun _ _ v => v = .bool true) (by kernel_rfl) (by kernel_rfl) (hI.out.below (Below.refl _ _).drew) ?_
          simp only [List.take_succ_cons, List.take_zero, List.drop_succ_cons, List.drop_zero]
          refine rel_move (v := .bool true) rfl rfl ?_
          simp only [Act.put, List.setIfInBounds_toArray, List.set_cons_succ, List.set_cons_zero]
          refine rel_move (v := .bool true) rfl rfl ?_
          simp only [Act.put, List.setIfInBounds_toArray, List.set_cons_succ, List.set_cons_zero]
          refine rel_move (v := .int .i64 (k : Int)) rfl rfl ?_
          simp only [Act.put, List.setIfInBounds_toArray, List.set_cons_succ, List.set_cons_zero]
          refine rel_val (v := .pointer (some ⟨w.heap.size, 37, none⟩)) rfl (fun w' hw => by go_simp) ?_
          simp only [Act.put, List.setIfInBounds_toArray, List.set_cons_succ, List.set_cons_zero]
          refine rel_val (v := .pointer (some ⟨w.heap.size, 37 + k, none⟩)) rfl (fun w' hw => by go_simp) ?_
          simp only [Act.put, List.setIfInBounds_toArray, List.set_cons_succ, List.set_cons_zero]
          refine rel_loadF (w.heap.size) (37 + k) (f (37 + k)) rfl rfl (fun w' hw => range_cell hw.r LA.out) ?_
          simp only [Act.put, List.setIfInBounds_toArray, List.set_cons_succ, List.set_cons_zero]
          refine rel_move (v := .int .i64 (k : Int)) rfl rfl ?_
          simp only [Act.put, List.setIfInBounds_toArray, List.set_cons_succ, List.set_cons_zero]
          refine rel_val (v := .pointer (some ⟨w.heap.size + 1, 37, none⟩)) rfl (fun w' hw => by go_simp) ?_
          simp only [Act.put, List.setIfInBounds_toArray, List.set_cons_succ, List.set_cons_zero]
          refine rel_val (v := .pointer (some ⟨w.heap.size + 1, 37 + k, none⟩)) rfl (fun w' hw => by go_simp) ?_
          simp only [Act.put, List.setIfInBounds_toArray, List.set_cons_succ, List.set_cons_zero]
          refine rel_loadF (w.heap.size + 1) (37 + k) (f' (37 + k)) rfl rfl (fun w' hw => range_cell hw.r' LB.out) ?_
          simp only [Act.put, List.setIfInBounds_toArray, List.set_cons_succ, List.set_cons_zero]
          refine rel_call (f := 9) (args := #[.float .f64 (f (37 + k)), .float .f64 (f' (37 + k))]) rfl (fun w' hw => by go_simp) (fun w' hw => (k9 (HF.out _) w').mono fun e w'' ⟨he, hq⟩ => ⟨_, he, rfl, by subst hq; exact hw⟩) (fun v hv => ?_)
          obtain rfl : v = .bool true := hv
          simp only [Act.put, List.setIfInBounds_toArray, List.set_cons_succ, List.set_cons_zero]
          refine rel_pick_t (v := .bool true) rfl rfl rfl ?_
          simp only [Act.put, List.setIfInBounds_toArray, List.set_cons_succ, List.set_cons_zero]
          refine rel_assign (v := .bool true) rfl rfl ?_
          simp only [Act.put, List.setIfInBounds_toArray, List.set_cons_succ, List.set_cons_zero]
          refine rel_nil ?_
          intro w3 hI3
          have I3 := Lib.hid hI3
          clear hI3 hI LA LB
          go_wp2
          go_roundw
          case rel => exact ⟨rfl, k + 1, by have := HLT.out; omega, by go_num, I3⟩
          case measure => have := HLT.out; simp [intOf]; omega
        · have hki : ¬ (k : Int) < 16 := by omega
          have BB := Lib.hid hI.out.b
          clear hlt hI
          go_wp2
          go_ret
          exact ⟨rfl, BB.out⟩
end Go.Proofs.YtphoggimeaejnaaGreatDoor
