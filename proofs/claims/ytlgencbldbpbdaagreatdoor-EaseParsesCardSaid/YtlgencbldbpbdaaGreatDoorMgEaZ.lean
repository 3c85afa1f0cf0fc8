/- ease.parseSteps. ease.curve (printed by gen_ebc.py). -/
import Derived.Test.YtlgencbldbpbdaaGreatDoorMgEaW
import Derived.Shelf.Strings.SlTrimAscii
import Derived.Shelf.Strconv.AtoiErr
namespace Go.Proofs.YtlgencbldbpbdaaGreatDoor
open Go.RowKit Fl
def EW (w : World) : Prop := PowTab w ∧ 4 < w.heap.size ∧ (∃ ev, w.cell? ⟨4, 0, none⟩ = some ev ∧ (ev = .nilIface ∨ ∃ te pe, ev = .iface te pe)) ∧ ∃ m : Int, w.cell? ⟨2, 0, none⟩ = some (.int .i64 m)
theorem EW.below {w w' : World} (h : EW w) (hb : Below w.heap.size w w') : EW w' := by
 obtain ⟨h1, h2, ⟨ev, h3, h4⟩, m, h5⟩ := h
 exact ⟨h1.below hb, Nat.lt_of_lt_of_le h2 hb.size, ⟨ev, (hb.cell (p := ⟨4, 0, none⟩) h2).trans h3, h4⟩, m, (hb.cell (p := ⟨2, 0, none⟩) (by show 2 < w.heap.size; omega)).trans h5⟩
def LS (w : World) (A : Nat) (xs : List ByteArray) : Prop := A < w.heap.size ∧ ∀ k x, xs[k]? = some x → w.cell? ⟨A, k, none⟩ = some (.string x)
theorem LS.below {w w' : World} {A : Nat} {xs : List ByteArray} (h : LS w A xs) (hb : Below w.heap.size w w') : LS w' A xs := ⟨Nat.lt_of_lt_of_le h.1 hb.size, fun k x hk => (hb.cell (p := ⟨A, k, none⟩) h.1).trans (h.2 k x hk)⟩
def allD (l : List Nat) : Bool := l.all fun x => decide (48 ≤ x ∧ x ≤ 57)
def chkF (a : List Nat) (j : Nat) : Option Ez :=
 if j = 0 ∨ 9 < a.length ∨ allD a = false ∨ a = [] then none else if dval a < 1 ∨ (j = 3 ∧ dval a < 2) then none else some (.steps (dval a) j)
def stepsF : List (List Nat) → Option Ez
 | [a] => chkF a 2
 | [a, b] => chkF a (jumpF b)
 | _ => none
def ParseR (w : World) (o : Option Ez) (e : Ending) (w' : World) : Prop := match o with
 | none => BadR w e w'
 | some z => OkR w z e w'
theorem BadR.mono {w w1 w' : World} {e : Ending} (h : BadR w1 e w') (hb : Below w.heap.size w w1) : BadR w e w' := by
 obtain ⟨N, h1, h2, h3, h4, h5, h6⟩ := h
 have := hb.size
 exact ⟨N, h1, by omega, h3, h4, h5, hb.trans (h6.mono hb.size)⟩
theorem OkR.mono {w w1 w' : World} {z : Ez} {e : Ending} (h : OkR w1 z e w') (hb : Below w.heap.size w w1) : OkR w z e w' := by
 obtain ⟨b, h1, h2, h3, h4⟩ := h
 have := hb.size
 exact ⟨b, h1, by omega, h3, hb.trans (h4.mono hb.size)⟩
def ds10 : List UInt8 := [48, 49, 50, 51, 52, 53, 54, 55, 56, 57]
theorem ds_mem (b : UInt8) : ds10.contains b = decide (48 ≤ b.toNat ∧ b.toNat ≤ 57) := by
 have : ∀ n, n < 256 → ds10.contains (UInt8.ofNat n) = decide (48 ≤ n ∧ n ≤ 57) := by decide +kernel
 have h := this b.toNat b.toNat_lt
 rwa [UInt8.ofNat_toNat] at h
theorem drop_nil {α : Type} (p : α → Bool) : ∀ l : List α, l.dropWhile p = [] ↔ l.all p = true
 | [] => by simp
 | x :: l => by
   rw [List.dropWhile_cons, List.all_cons]
   by_cases h : p x = true
   ·rw [if_pos h, h, Bool.true_and]; exact drop_nil p l
   ·rw [if_neg h]; simp [h]
theorem trimS_nil (l : List UInt8) : Lib.trimS l ds10 = [] ↔ allD (l.map UInt8.toNat) = true := by
 unfold Lib.trimS Lib.trimLeftS Lib.trimRightS allD
 rw [drop_nil, List.all_reverse]
 have e : (l.map UInt8.toNat).all (fun x => decide (48 ≤ x ∧ x ≤ 57)) = l.all (ds10.contains ·) := by
  rw [List.all_map]
  congr 1
  funext b
  exact (ds_mem b).symm
 rw [e]
 constructor
 ·intro h
  by_cases h2 : l.reverse.dropWhile (ds10.contains ·) = []
  ·rw [drop_nil, List.all_reverse] at h2; exact h2
  ·exfalso
   obtain ⟨x, r, hx⟩ : ∃ x r, l.reverse.dropWhile (ds10.contains ·) = x :: r := by
    cases h3 : l.reverse.dropWhile (ds10.contains ·) with
    | nil => exact absurd h3 h2
    | cons x r => exact ⟨x, r, rfl⟩
   have h3 := List.head_dropWhile_not (ds10.contains ·) (l := l.reverse) h2
   have h4 : (l.reverse.dropWhile (ds10.contains ·)).all (ds10.contains ·) = true := h
   rw [List.all_eq_true] at h4
   have h5 := h4 _ (List.head_mem h2)
   rw [h5] at h3
   cases h3
 ·intro h
  have h2 : l.reverse.dropWhile (ds10.contains ·) = [] := by rw [drop_nil, List.all_reverse]; exact h
  rw [h2]; rfl
theorem decFrom_dval : ∀ (l : List UInt8) (a : Nat), allD (l.map UInt8.toNat) = true → Lib.decFrom a l = some ((l.map UInt8.toNat).foldl (fun a x => a * 10 + (x - 48)) a)
 | [], a, _ => rfl
 | x :: l, a, h => by
   unfold allD at h
   rw [List.map_cons, List.all_cons, Bool.and_eq_true, decide_eq_true_iff] at h
   unfold Lib.decFrom Lib.digitVal
   rw [if_pos h.1]
   exact decFrom_dval l _ h.2
theorem atoi_dval (l : List UInt8) (h0 : l ≠ []) (h : allD (l.map UInt8.toNat) = true) : Lib.atoi l = some (dval (l.map UInt8.toNat) : Nat) := by
 cases l with
 | nil => exact absurd rfl h0
 | cons x l =>
   have hx : 48 ≤ x.toNat ∧ x.toNat ≤ 57 := by
    unfold allD at h
    rw [List.map_cons, List.all_cons, Bool.and_eq_true, decide_eq_true_iff] at h
    exact h.1
   have n1 : (x == 45) = false := beq_eq_false_iff_ne.2 (fun e => by subst e; revert hx; decide)
   have n2 : (x == 43) = false := beq_eq_false_iff_ne.2 (fun e => by subst e; revert hx; decide)
   unfold Lib.atoi Lib.decNat
   simp only [n1, n2, Bool.false_eq_true, if_false, List.isEmpty_cons]
   rw [decFrom_dval _ _ h]
   rfl
theorem dval_lt9 {l : List Nat} (h : allD l = true) (h9 : l.length ≤ 9) : dval l ≤ 999999999 := by
 have hd : DG l := fun x hx => by
  have := List.all_eq_true.1 h x hx
  exact of_decide_eq_true this
 have h1 := dval_lt hd l.length (Nat.le_refl _)
 rw [List.take_length] at h1
 have h2 : 10 ^ l.length ≤ 10 ^ 9 := Nat.pow_le_pow_right (by decide) h9
 have : (10 : Nat) ^ 9 = 1000000000 := by decide
 omega
end Go.Proofs.YtlgencbldbpbdaaGreatDoor
namespace Go.Proofs.YtlgencbldbpbdaaGreatDoor
open Go.RowKit Fl
theorem bl_curve : bl ⟨#[99, 117, 98, 105, 99, 45, 98, 101, 122, 105, 101, 114, 40]⟩ = aCurve := rfl
theorem tx_curve (a b c d : Nat) : aCurve ++ printF a ++ [44, 32] ++ printF b ++ [44, 32] ++ printF c ++ [44, 32] ++ printF d ++ [41] = textE (.curve a b c d) := rfl
def CM (w : World) (a b c d : Nat) (wx : World) : Prop := Below w.heap.size w wx ∧ w.heap.size + 4 ≤ wx.heap.size ∧ wx.cell? ⟨w.heap.size, 0, none⟩ = some (.float .f64 a) ∧ wx.cell? ⟨w.heap.size + 1, 0, none⟩ = some (.float .f64 b) ∧
 wx.cell? ⟨w.heap.size + 1 + 1, 0, none⟩ = some (.float .f64 c) ∧ wx.cell? ⟨w.heap.size + 1 + 1 + 1, 0, none⟩ = some (.float .f64 d)
theorem cm_four (w : World) (a b c d : Nat) : CM w a b c d ((((w.alloc (Obj.cells #[Value.float .f64 a] 31)).alloc (Obj.cells #[Value.float .f64 b] 31)).alloc (Obj.cells #[Value.float .f64 c] 31)).alloc (Obj.cells #[Value.float .f64 d] 31)) := by
 have b0 := (Below.refl w.heap.size w).alloc (Nat.le_refl _) (Obj.cells #[Value.float .f64 a] 31)
 have b1 := b0.alloc b0.size (Obj.cells #[Value.float .f64 b] 31)
 have b2 := b1.alloc b1.size (Obj.cells #[Value.float .f64 c] 31)
 have b3 := b2.alloc b2.size (Obj.cells #[Value.float .f64 d] 31)
 exact ⟨b3, by simp, by simp [go_sem], by simp [go_sem], by simp [go_sem], by simp [go_sem]⟩
set_option maxRecDepth 100000 in
set_option maxHeartbeats 2000000 in
theorem k39 (a b c d : Nat) (w : World) (ha : U a) (hb : U b) (hc : U c) (hd : U d) (ht : PowTab w) : Calls Tryz.prog 39 #[.float .f64 a, .float .f64 b, .float .f64 c, .float .f64 d] w fun e w' => ∃ p, e = .returned (ptr p) ∧ w.heap.size ≤ p ∧ EzAt w' p (.curve a b c d) ∧ Below w.heap.size w w' := by
 have HT := Lib.hid ht
 have HU := Lib.hid (And.intro ha (And.intro hb (And.intro hc hd)))
 have HW := Lib.hid (cm_four w a b c d)
 clear ha hb hc hd ht
 go_enter Tryz.func39, Tryz.ntmps39
 go_upto_region 1 with fail
 refine wp_genY (fun wx => CM w a b c d wx) HW.out ?_
 intro wx SMx
 have H := Lib.hid SMx
 clear HW SMx
 have LD : ∀ w', Below wx.heap.size wx w' → ∀ b o v, b < w.heap.size + 4 → wx.cell? ⟨b, o, none⟩ = some v → w'.cell? ⟨b, o, none⟩ = some v := fun w' hb b o v hlt hc => (hb.cell (p := ⟨b, o, none⟩) (Nat.lt_of_lt_of_le hlt H.out.2.1)).trans hc
 have PR : ∀ x w', U x → Below wx.heap.size wx w' → Calls Tryz.prog 77 #[.float .f64 x] w' fun e w2 => ∃ v, e = .returned v ∧ (∀ y, #[Value.float .f64 x] = #[Value.float .f64 y] → ∃ s : ByteArray, v = .string s ∧ bl s = printF y ∧ s.size ≤ 61) ∧ Below wx.heap.size wx w2 := fun x w' hx hw =>
  (lPrint x w' hx ((HT.out.below H.out.1).below hw)).mono fun e w2 ⟨⟨s, he, h1, h2⟩, hb⟩ => ⟨_, he, fun y hy => by
   simp only [Array.mk.injEq, List.cons.injEq, and_true, Value.float.injEq, true_and] at hy
   subst hy
   exact ⟨s, rfl, h1, by omega⟩, hw.trans (hb.mono hw.size)⟩
 refine wp_region_rel 17 (fun w' => Below wx.heap.size wx w') (fun _ args v => ∀ y, args = #[Value.float .f64 y] → ∃ s : ByteArray, v = .string s ∧ bl s = printF y ∧ s.size ≤ 61) (by kernel_rfl) (by kernel_rfl) ((Below.refl _ _).drew) ?_
 simp only [List.take_succ_cons, List.take_zero, List.drop_succ_cons, List.drop_zero]
 refine rel_val (v := .float .f64 a) rfl (fun w' hw => by
  have c := LD w' hw _ _ _ (by omega) H.out.2.2.1
  unfold execOp
  go_simp) ?_
 simp only [Act.put, List.setIfInBounds_toArray, List.set_cons_succ, List.set_cons_zero]
 refine rel_call rfl (f := 77) (args := #[.float .f64 a]) (fun w' hw => by unfold execOp; go_simp) (fun w' hw => PR a w' HU.out.1 hw) ?_
 intro v hv
 obtain ⟨s0, rfl, hs0, hz0⟩ := hv a rfl
 clear hv
 simp only [Act.put, List.setIfInBounds_toArray, List.set_cons_succ, List.set_cons_zero]
 refine rel_val (v := .string (⟨#[99, 117, 98, 105, 99, 45, 98, 101, 122, 105, 101, 114, 40]⟩ ++ s0)) rfl (fun w' hw => by unfold execOp; go_simp; omega) ?_
 simp only [Act.put, List.setIfInBounds_toArray, List.set_cons_succ, List.set_cons_zero]
 obtain ⟨t0, ht0⟩ : ∃ t0 : ByteArray, t0 = ⟨#[99, 117, 98, 105, 99, 45, 98, 101, 122, 105, 101, 114, 40]⟩ ++ s0 := ⟨_, rfl⟩
 have T0 := Lib.hid (show bl t0 = aCurve ++ printF a by rw [ht0, bl_append, bl_curve, hs0])
 have Z0 : t0.size ≤ 74 := by rw [ht0, ByteArray.size_append]; first | omega | (show _ + 2 ≤ _; omega) | (show _ + 1 ≤ _; omega) | (show 13 + _ ≤ _; omega)
 rw [← ht0]
 clear ht0
 refine rel_val (v := .string (t0 ++ ⟨#[44, 32]⟩)) rfl (fun w' hw => by unfold execOp; go_simp; omega) ?_
 simp only [Act.put, List.setIfInBounds_toArray, List.set_cons_succ, List.set_cons_zero]
 obtain ⟨t1, ht1⟩ : ∃ t1 : ByteArray, t1 = t0 ++ ⟨#[44, 32]⟩ := ⟨_, rfl⟩
 have T1 := Lib.hid (show bl t1 = aCurve ++ printF a ++ [44, 32] by rw [ht1, bl_append, T0.out, bl_comma])
 have Z1 : t1.size ≤ 76 := by rw [ht1, ByteArray.size_append]; first | omega | (show _ + 2 ≤ _; omega) | (show _ + 1 ≤ _; omega) | (show 13 + _ ≤ _; omega)
 rw [← ht1]
 clear ht1
 refine rel_val (v := .float .f64 b) rfl (fun w' hw => by
  have c := LD w' hw _ _ _ (by omega) H.out.2.2.2.1
  unfold execOp
  go_simp) ?_
 simp only [Act.put, List.setIfInBounds_toArray, List.set_cons_succ, List.set_cons_zero]
 refine rel_call rfl (f := 77) (args := #[.float .f64 b]) (fun w' hw => by unfold execOp; go_simp) (fun w' hw => PR b w' HU.out.2.1 hw) ?_
 intro v hv
 obtain ⟨s1, rfl, hs1, hz1⟩ := hv b rfl
 clear hv
 simp only [Act.put, List.setIfInBounds_toArray, List.set_cons_succ, List.set_cons_zero]
 refine rel_val (v := .string (t1 ++ s1)) rfl (fun w' hw => by unfold execOp; go_simp; omega) ?_
 simp only [Act.put, List.setIfInBounds_toArray, List.set_cons_succ, List.set_cons_zero]
 obtain ⟨t2, ht2⟩ : ∃ t2 : ByteArray, t2 = t1 ++ s1 := ⟨_, rfl⟩
 have T2 := Lib.hid (show bl t2 = aCurve ++ printF a ++ [44, 32] ++ printF b by rw [ht2, bl_append, T1.out, hs1])
 have Z2 : t2.size ≤ 137 := by rw [ht2, ByteArray.size_append]; first | omega | (show _ + 2 ≤ _; omega) | (show _ + 1 ≤ _; omega) | (show 13 + _ ≤ _; omega)
 rw [← ht2]
 clear ht2
 refine rel_val (v := .string (t2 ++ ⟨#[44, 32]⟩)) rfl (fun w' hw => by unfold execOp; go_simp; omega) ?_
 simp only [Act.put, List.setIfInBounds_toArray, List.set_cons_succ, List.set_cons_zero]
 obtain ⟨t3, ht3⟩ : ∃ t3 : ByteArray, t3 = t2 ++ ⟨#[44, 32]⟩ := ⟨_, rfl⟩
 have T3 := Lib.hid (show bl t3 = aCurve ++ printF a ++ [44, 32] ++ printF b ++ [44, 32] by rw [ht3, bl_append, T2.out, bl_comma])
 have Z3 : t3.size ≤ 139 := by rw [ht3, ByteArray.size_append]; first | omega | (show _ + 2 ≤ _; omega) | (show _ + 1 ≤ _; omega) | (show 13 + _ ≤ _; omega)
 rw [← ht3]
 clear ht3
 refine rel_val (v := .float .f64 c) rfl (fun w' hw => by
  have c := LD w' hw _ _ _ (by omega) H.out.2.2.2.2.1
  unfold execOp
  go_simp) ?_
 simp only [Act.put, List.setIfInBounds_toArray, List.set_cons_succ, List.set_cons_zero]
 refine rel_call rfl (f := 77) (args := #[.float .f64 c]) (fun w' hw => by unfold execOp; go_simp) (fun w' hw => PR c w' HU.out.2.2.1 hw) ?_
 intro v hv
 obtain ⟨s2, rfl, hs2, hz2⟩ := hv c rfl
 clear hv
 simp only [Act.put, List.setIfInBounds_toArray, List.set_cons_succ, List.set_cons_zero]
 refine rel_val (v := .string (t3 ++ s2)) rfl (fun w' hw => by unfold execOp; go_simp; omega) ?_
 simp only [Act.put, List.setIfInBounds_toArray, List.set_cons_succ, List.set_cons_zero]
 obtain ⟨t4, ht4⟩ : ∃ t4 : ByteArray, t4 = t3 ++ s2 := ⟨_, rfl⟩
 have T4 := Lib.hid (show bl t4 = aCurve ++ printF a ++ [44, 32] ++ printF b ++ [44, 32] ++ printF c by rw [ht4, bl_append, T3.out, hs2])
 have Z4 : t4.size ≤ 200 := by rw [ht4, ByteArray.size_append]; first | omega | (show _ + 2 ≤ _; omega) | (show _ + 1 ≤ _; omega) | (show 13 + _ ≤ _; omega)
 rw [← ht4]
 clear ht4
 refine rel_val (v := .string (t4 ++ ⟨#[44, 32]⟩)) rfl (fun w' hw => by unfold execOp; go_simp; omega) ?_
 simp only [Act.put, List.setIfInBounds_toArray, List.set_cons_succ, List.set_cons_zero]
 obtain ⟨t5, ht5⟩ : ∃ t5 : ByteArray, t5 = t4 ++ ⟨#[44, 32]⟩ := ⟨_, rfl⟩
 have T5 := Lib.hid (show bl t5 = aCurve ++ printF a ++ [44, 32] ++ printF b ++ [44, 32] ++ printF c ++ [44, 32] by rw [ht5, bl_append, T4.out, bl_comma])
 have Z5 : t5.size ≤ 202 := by rw [ht5, ByteArray.size_append]; first | omega | (show _ + 2 ≤ _; omega) | (show _ + 1 ≤ _; omega) | (show 13 + _ ≤ _; omega)
 rw [← ht5]
 clear ht5
 refine rel_val (v := .float .f64 d) rfl (fun w' hw => by
  have c := LD w' hw _ _ _ (by omega) H.out.2.2.2.2.2
  unfold execOp
  go_simp) ?_
 simp only [Act.put, List.setIfInBounds_toArray, List.set_cons_succ, List.set_cons_zero]
 refine rel_call rfl (f := 77) (args := #[.float .f64 d]) (fun w' hw => by unfold execOp; go_simp) (fun w' hw => PR d w' HU.out.2.2.2 hw) ?_
 intro v hv
 obtain ⟨s3, rfl, hs3, hz3⟩ := hv d rfl
 clear hv
 simp only [Act.put, List.setIfInBounds_toArray, List.set_cons_succ, List.set_cons_zero]
 refine rel_val (v := .string (t5 ++ s3)) rfl (fun w' hw => by unfold execOp; go_simp; omega) ?_
 simp only [Act.put, List.setIfInBounds_toArray, List.set_cons_succ, List.set_cons_zero]
 obtain ⟨t6, ht6⟩ : ∃ t6 : ByteArray, t6 = t5 ++ s3 := ⟨_, rfl⟩
 have T6 := Lib.hid (show bl t6 = aCurve ++ printF a ++ [44, 32] ++ printF b ++ [44, 32] ++ printF c ++ [44, 32] ++ printF d by rw [ht6, bl_append, T5.out, hs3])
 have Z6 : t6.size ≤ 263 := by rw [ht6, ByteArray.size_append]; first | omega | (show _ + 2 ≤ _; omega) | (show _ + 1 ≤ _; omega) | (show 13 + _ ≤ _; omega)
 rw [← ht6]
 clear ht6
 refine rel_val (v := .string (t6 ++ ⟨#[41]⟩)) rfl (fun w' hw => by unfold execOp; go_simp; omega) ?_
 simp only [Act.put, List.setIfInBounds_toArray, List.set_cons_succ, List.set_cons_zero]
 obtain ⟨t7, ht7⟩ : ∃ t7 : ByteArray, t7 = t6 ++ ⟨#[41]⟩ := ⟨_, rfl⟩
 have T7 := Lib.hid (show bl t7 = aCurve ++ printF a ++ [44, 32] ++ printF b ++ [44, 32] ++ printF c ++ [44, 32] ++ printF d ++ [41] by rw [ht7, bl_append, T6.out, bl_close])
 have Z7 : t7.size ≤ 264 := by rw [ht7, ByteArray.size_append]; first | omega | (show _ + 2 ≤ _; omega) | (show _ + 1 ≤ _; omega) | (show 13 + _ ≤ _; omega)
 rw [← ht7]
 clear ht7
 refine rel_assign (v := .string (t7)) rfl rfl ?_
 simp only [Act.put, List.setIfInBounds_toArray, List.set_cons_succ, List.set_cons_zero]
 refine rel_nil ?_
 intro w' hw
 have TX : Hid (bl (t7) = textE (.curve a b c d)) := Lib.hid (T7.out.trans (tx_curve a b c d))
 have F : Hid (FnAt w' (.curve a b c d) (.func (.func 78) #[] #[ptr w.heap.size, ptr (w.heap.size + 1), ptr (w.heap.size + 1 + 1), ptr (w.heap.size + 1 + 1 + 1)])) := Lib.hid (by
  have hz2 := hw.size
  have hz3 := H.out.2.1
  exact ⟨HU.out.1, HU.out.2.1, HU.out.2.2.1, HU.out.2.2.2, _, _, _, _, rfl, by omega, by omega, by omega, by omega, LD w' hw _ _ _ (by omega) H.out.2.2.1, LD w' hw _ _ _ (by omega) H.out.2.2.2.1, LD w' hw _ _ _ (by omega) H.out.2.2.2.2.1, LD w' hw _ _ _ (by omega) H.out.2.2.2.2.2⟩)
 have HB := Lib.hid (H.out.1.trans (hw.mono H.out.1.size))
 clear hs0 hs1 hs2 hs3 hz0 hz1 hz2 hz3 LD hw PR Z0 Z1 Z2 Z3 Z4 Z5 Z6 Z7
 go_wp2
 go_ret
 exact ⟨w'.heap.size, rfl, HB.out.size, ⟨by simp, t7, _, by simp [go_sem], TX.out, by simp [go_sem], F.out.below (B := 0) ((Below.refl _ w').alloc (Nat.le_refl _) _)⟩, HB.out.alloc HB.out.size _⟩
end Go.Proofs.YtlgencbldbpbdaaGreatDoor
