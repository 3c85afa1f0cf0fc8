/- The head of all statements of layer 1: 'alive' answers true. Steps of the relational walk by the operation's kind; each fails at once where it does not fit. Whole numbers as 40 words of 64 bits, below nought by the two's complement: the plain laws. -/
import Derived.Test.YtelalledjbeenaaMgJoin
import Derived.Test.YtelalledjbeenaaMgF32
import Derived.Laws.StructEq
import Derived.Test.YtelalledjbeenaaRel
namespace Go.Proofs.Ytelalledjbeenaa
open Go.RowKit Fl

theorem U_of_wf {x : Nat} (h : (Lit.float .f64 x).wf = true) : U x := by
  unfold U; simpa [Lit.wf] using h
theorem U32_of_wf {x : Nat} (h : (Lit.float .f32 x).wf = true) : U32 x := by
  unfold U32; simpa [Lit.wf] using h
theorem U_of_int {n : Int} (h : (Lit.int .u64 n).wf = true) : ∃ m : Nat, n = (m : Int) ∧ U m := by
  simp [Lit.wf, IntKind.min, IntKind.max, IntKind.signed, IntKind.bits] at h
  exact ⟨n.toNat, by omega, by unfold U; omega⟩
theorem U32_of_int {n : Int} (h : (Lit.int .u32 n).wf = true) : ∃ m : Nat, n = (m : Int) ∧ U32 m := by
  simp [Lit.wf, IntKind.min, IntKind.max, IntKind.signed, IntKind.bits] at h
  exact ⟨n.toNat, by omega, by unfold U32; omega⟩
theorem bcell {W w1 : World} (hb : Below W.heap.size W w1) : (∀ b o, b < W.heap.size → w1.cell? ⟨b, o, none⟩ = W.cell? ⟨b, o, none⟩) ∧ (∀ b o, b < W.heap.size → w1.frozen? ⟨b, o, none⟩ = W.frozen? ⟨b, o, none⟩) :=
  ⟨fun b o h => hb.cell (p := ⟨b, o, none⟩) h, fun b o h => hb.frozen (p := ⟨b, o, none⟩) h⟩

theorem kept_cell {w w2 : World} {vs : Array Value} {t : TypeId} (hb : Below (w.alloc (.cells vs t)).heap.size (w.alloc (.cells vs t)) w2) (k : Nat) :
    w2.cell? ⟨w.heap.size, k, none⟩ = vs[k]? := by
  rw [hb.cell (p := ⟨w.heap.size, k, none⟩) (by simp)]
  exact World.cell?_alloc_new w vs t k
theorem size_lt_alloc {w w2 : World} {o : Obj} (hb : Below (w.alloc o).heap.size (w.alloc o) w2) : w.heap.size < w2.heap.size := by
  have := hb.size
  simp at this; omega
theorem below_of_alloc {w w1 w2 : World} {o : Obj} (h : Below w.heap.size w w1) (hb : Below (w1.alloc o).heap.size (w1.alloc o) w2) : Below w.heap.size w w2 :=
  (h.alloc h.size o).trans (hb.mono (by have := h.size; simp; omega))
theorem below_trans {w w1 w2 : World} (h : Below w.heap.size w w1) (hb : Below w1.heap.size w1 w2) : Below w.heap.size w w2 := h.trans (hb.mono h.size)
theorem parts_m29 : partsV 13837084675114480435 = .agg #[.bool true, .int .i64 2, .int .u64 6530219459687219, .int .i64 (-51)] := by
  have h1 : eM 13837084675114480435 = 1024 := by decide
  have h2 : fM 13837084675114480435 = 2026619832316723 := by decide
  have h3 : sg 13837084675114480435 = true := by decide
  unfold partsV pNeg pCls pMant pExp
  rw [h1, h2, h3]; rfl
theorem parts_1 : partsV 4607182418800017408 = .agg #[.bool false, .int .i64 2, .int .u64 4503599627370496, .int .i64 (-52)] := by
  have h1 : eM 4607182418800017408 = 1023 := by decide
  have h2 : fM 4607182418800017408 = 0 := by decide
  have h3 : sg 4607182418800017408 = false := by decide
  unfold partsV pNeg pCls pMant pExp
  rw [h1, h2, h3]; rfl
set_option maxRecDepth 100000 in
theorem c63k (w : World) : Calls Try.prog 63 #[.float .f64 13837084675114480435] w fun e w' => e = .returned (.int .u32 4294967294) ∧ Below w.heap.size w w' := by
  go_enter Try.func63, Try.ntmps63
  go_wp2_with fail
  refine (c30 _ _ (by unfold U; decide)).mono ?_
  rintro e w' ⟨rfl, hb⟩
  rw [parts_m29]
  go_wp2
  go_ret
  exact ⟨rfl, hb.alloc hb.size _⟩
set_option maxRecDepth 100000 in
theorem c64k (w : World) : Calls Try.prog 64 #[.float .f64 13837084675114480435] w fun e w' => e = .returned (.int .i32 (-2)) ∧ Below w.heap.size w w' := by
  go_enter Try.func64, Try.ntmps64
  go_wp2_with fail
  refine (c63k _).mono ?_
  rintro e w' ⟨rfl, hb⟩
  go_wp2
  go_ret
  exact ⟨ret_int (by unfold wrap32; omega), hb⟩
set_option maxRecDepth 100000 in
theorem c41k (w : World) : Calls Try.prog 41 #[.float .f64 4602678819172646912] w fun e w' => e = .returned (.float .f32 1056964608) ∧ w = w' := by
  have hc := fun w => run_convert_float_float (P := Try.prog) w 24 50 .f64 .f32 4602678819172646912 1056964608 (by rw [und24]; rfl) und50 (by decide)
  go_enter Try.func41, Try.ntmps41
  go_wp2
  go_ret
  exact ⟨rfl, rfl⟩
set_option maxRecDepth 100000 in
set_option maxHeartbeats 400000 in
theorem c29 (w : World) : Calls Try.prog 29 #[] w fun e w' => e = .returned (.bool true) ∧ Below w.heap.size w w' := by
  go_enter Try.func29, Try.ntmps29
  go_wp2_with fail
  refine (c30 _ _ (by unfold U; decide)).mono ?_
  rintro e w1 ⟨rfl, hb⟩
  rw [parts_1]
  go_wp2_with fail
  refine (c33 _ _ 3 _ _ (by unfold U; decide)).mono ?_
  rintro e w2 ⟨⟨r, rfl, hr, hp⟩, hb2⟩
  have hj : joinP false 2 3 (-1) = 4609434218613702656 := by decide +kernel
  rw [hj] at hp
  have e1 := f_eq r 4609434218613702656 hr (by unfold U; decide)
  rw [hp, show pl 4609434218613702656 = 4609434218613702656 from by decide, show feqP 4609434218613702656 4609434218613702656 = true from by decide] at e1
  have HP := Lib.hid hp
  have k0 := kept_cell hb2 0
  have k1 := kept_cell hb2 1
  have k2 := kept_cell hb2 2
  have k3 := kept_cell hb2 3
  simp only [List.getElem?_toArray, List.getElem?_cons_zero, List.getElem?_cons_succ] at k0 k1 k2 k3
  have hbb := below_of_alloc hb hb2
  clear hp hj hb hb2
  go_wp2_with fail
  refine (c41k _).mono ?_
  rintro e w3 ⟨rfl, rfl⟩
  have f1 : (FloatKind.f32.format.order 1056964608 1056964608 == some Ordering.eq) = true := by decide
  go_wp2_with fail
  refine (c64k _).mono ?_
  rintro e w4 ⟨rfl, hb4⟩
  go_wp2_with fail
  refine (c43n 4612811918334230528 _ (by unfold U; decide) (by decide)).mono ?_
  rintro e w5 ⟨rfl, rfl⟩
  rw [show wh 4612811918334230528 = 4611686018427387904 from by decide +kernel]
  have f2 : (FloatKind.f64.format.order 4611686018427387904 4611686018427387904 == some Ordering.eq) = true := by decide
  go_wp2_with fail
  refine (c69 _ _ _ (by unfold U; decide) (by unfold U; decide)).mono ?_
  rintro e w6 ⟨rfl, rfl⟩
  rw [show cmpZ (pl 4607182418800017408) (pl 4611686018427387904) = -1 from by decide]
  go_wp2
  go_ret
  exact ⟨rfl, below_trans hbb hb4⟩
end Go.Proofs.Ytelalledjbeenaa

namespace Go.Proofs.Ytelalledjbeenaa
open Go
section
variable {P : Program} {ops : Array Oper} {C : World → Prop} {G : FuncId → Array Value → Value → Prop} {Q : Act → Prop} {rest : List Oper} {a : Act}
variable {dst : Option Tmp} {ty : TypeId} {pos : String} {af : Array Edge} {gd : Option (Nat × Bool)}

theorem rel_move {x : Operand} {v : Value} (hv : a.eval x = v) (hw : Region.wanted ⟨dst, .move x, ty, pos, af, gd⟩ (yielded ops a.tmps) = true) (k : wpRel P ops C G Q rest (a.put dst v)) :
    wpRel P ops C G Q (⟨dst, .move x, ty, pos, af, gd⟩ :: rest) a :=
  rel_val hw (fun w _ => by subst hv; rfl) k
theorem rel_assign {x : Operand} {v : Value} (hv : a.eval x = v) (hw : Region.wanted ⟨dst, .assign x, ty, pos, af, gd⟩ (yielded ops a.tmps) = true) (k : wpRel P ops C G Q rest (a.put dst v)) :
    wpRel P ops C G Q (⟨dst, .assign x, ty, pos, af, gd⟩ :: rest) a :=
  rel_val hw (fun w _ => by subst hv; rfl) k
theorem rel_pick_t {c x y : Operand} {v : Value} (hc : a.eval c = .bool true) (hv : a.eval x = v) (hw : Region.wanted ⟨dst, .pick c x y, ty, pos, af, gd⟩ (yielded ops a.tmps) = true) (k : wpRel P ops C G Q rest (a.put dst v)) :
    wpRel P ops C G Q (⟨dst, .pick c x y, ty, pos, af, gd⟩ :: rest) a :=
  rel_val hw (fun w _ => by
    subst hv
    unfold execOp
    simp only [hc]
    rfl) k
theorem rel_pick_f {c x y : Operand} {v : Value} (hc : a.eval c = .bool false) (hv : a.eval y = v) (hw : Region.wanted ⟨dst, .pick c x y, ty, pos, af, gd⟩ (yielded ops a.tmps) = true) (k : wpRel P ops C G Q rest (a.put dst v)) :
    wpRel P ops C G Q (⟨dst, .pick c x y, ty, pos, af, gd⟩ :: rest) a :=
  rel_val hw (fun w _ => by
    subst hv
    unfold execOp
    simp only [hc]
    rfl) k
/-- A call of a function by its number, the arguments by name. -/
theorem rel_callN {f : FuncId} {xs : Array Operand} {tys : Array TypeId} {args : Array Value} {v0 : Value → Prop} (hf : xs.map a.eval = args)
    (hw : Region.wanted ⟨dst, .call { callee := .value (.func f), args := xs, argTypes := tys }, ty, pos, af, gd⟩ (yielded ops a.tmps) = true)
    (h : ∀ w, C w → (execOp a.eval ⟨dst, .call { callee := .value (.func f), args := xs, argTypes := tys }, ty, pos, af, gd⟩).run P w = .ok (.enter f args) w)
    (c : ∀ w, C w → Calls P f args w fun e w' => ∃ v, e = .returned v ∧ G f args v ∧ C w') (hg : ∀ v, G f args v → v0 v) (k : ∀ v, v0 v → wpRel P ops C G Q rest (a.put dst v)) :
    wpRel P ops C G Q (⟨dst, .call { callee := .value (.func f), args := xs, argTypes := tys }, ty, pos, af, gd⟩ :: rest) a :=
  have _ := hf
  rel_call hw h c (fun v hv => k v (hg v hv))
end
end Go.Proofs.Ytelalledjbeenaa

namespace Go.Proofs.Ytelalledjbeenaa.Fl

/-- the i-th word of a whole number -/
def wd (z : Int) (i : Nat) : Int := z / (2 : Int) ^ (64 * i) % 18446744073709551616
theorem wd_range (z : Int) (i : Nat) : 0 ≤ wd z i ∧ wd z i < 18446744073709551616 := by
  unfold wd
  exact ⟨Int.emod_nonneg _ (by decide), Int.emod_lt_of_pos _ (by decide)⟩
theorem T_pos (i : Nat) : (0 : Int) < (2 : Int) ^ (64 * i) := Int.pow_pos (by decide)
theorem T_succ (i : Nat) : (2 : Int) ^ (64 * (i + 1)) = (2 : Int) ^ (64 * i) * 18446744073709551616 := by
  rw [Nat.mul_succ, Int.pow_add]; rfl
theorem emod_mul' (a T : Int) (hT : 0 < T) : a % (T * 18446744073709551616) = T * (a / T % 18446744073709551616) + a % T := by
  have h1 := Int.mul_ediv_add_emod a T
  have h2 := Int.emod_nonneg a (show T ≠ 0 by omega)
  have h3 := Int.emod_lt_of_pos a hT
  have h4 := Int.mul_ediv_add_emod (a / T) 18446744073709551616
  have h5 := Int.emod_nonneg (a / T) (show (18446744073709551616 : Int) ≠ 0 by decide)
  have h6 := Int.emod_lt_of_pos (a / T) (show (0 : Int) < 18446744073709551616 by decide)
  generalize a / T / 18446744073709551616 = q at *
  generalize a / T % 18446744073709551616 = r at *
  generalize a % T = s at *
  have e : a = (T * r + s) + T * 18446744073709551616 * q := by
    rw [← h1, ← h4, Int.mul_add, Int.mul_assoc]; omega
  have h7 : 0 ≤ T * r := Int.mul_nonneg (by omega) h5
  have h8 : T * r + T ≤ T * 18446744073709551616 := by
    have := Int.mul_le_mul_of_nonneg_left (show r + 1 ≤ 18446744073709551616 by omega) (show 0 ≤ T by omega)
    rw [Int.mul_add, Int.mul_one] at this; exact this
  rw [e, Int.add_mul_emod_self_left, Int.emod_eq_of_lt (by omega) (by omega)]
/-- what is carried into the i-th word of a sum -/
def cy (a b : Int) (i : Nat) : Int := (a % (2 : Int) ^ (64 * i) + b % (2 : Int) ^ (64 * i)) / (2 : Int) ^ (64 * i)
theorem cy_zero (a b : Int) : cy a b 0 = 0 := by simp [cy, Int.emod_one]
theorem cy_range (a b : Int) (i : Nat) : 0 ≤ cy a b i ∧ cy a b i ≤ 1 := by
  unfold cy
  have hT := T_pos i
  generalize (2 : Int) ^ (64 * i) = T at *
  have h1 := Int.emod_nonneg a (show T ≠ 0 by omega)
  have h2 := Int.emod_nonneg b (show T ≠ 0 by omega)
  have h3 := Int.emod_lt_of_pos a hT
  have h4 := Int.emod_lt_of_pos b hT
  refine ⟨Int.ediv_nonneg (by omega) (by omega), ?_⟩
  have : (a % T + b % T) / T < 2 := Int.ediv_lt_of_lt_mul hT (by omega)
  omega
theorem div_add (a b : Int) (i : Nat) : (a + b) / (2 : Int) ^ (64 * i) = a / (2 : Int) ^ (64 * i) + b / (2 : Int) ^ (64 * i) + cy a b i := by
  unfold cy
  have hT := T_pos i
  generalize (2 : Int) ^ (64 * i) = T at *
  have h1 := Int.mul_ediv_add_emod a T
  have h2 := Int.mul_ediv_add_emod b T
  have e : a + b = (a % T + b % T) + T * (a / T + b / T) := by rw [Int.mul_add]; omega
  rw [e, Int.add_mul_ediv_left _ _ (by omega)]
  omega
theorem wd_add (a b : Int) (i : Nat) : wd (a + b) i = (wd a i + wd b i + cy a b i) % 18446744073709551616 := by
  unfold wd
  rw [div_add]
  omega
theorem cy_succ (a b : Int) (i : Nat) : cy a b (i + 1) = (wd a i + wd b i + cy a b i) / 18446744073709551616 := by
  have key : ∀ a : Int, a % ((2 : Int) ^ (64 * i) * 18446744073709551616) = (2 : Int) ^ (64 * i) * wd a i + a % (2 : Int) ^ (64 * i) := by
    intro a
    unfold wd
    have hT := T_pos i
    generalize (2 : Int) ^ (64 * i) = T at *
    exact emod_mul' a T hT
  have hT := T_pos i
  show (a % (2 : Int) ^ (64 * (i + 1)) + b % (2 : Int) ^ (64 * (i + 1))) / (2 : Int) ^ (64 * (i + 1)) = _
  rw [T_succ, key, key]
  unfold cy
  generalize (2 : Int) ^ (64 * i) = T at *
  generalize wd a i = x
  generalize wd b i = y
  rw [← Int.ediv_ediv_of_nonneg (by omega)]
  congr 1
  have e : T * x + a % T + (T * y + b % T) = (a % T + b % T) + T * (x + y) := by rw [Int.mul_add]; omega
  rw [e, Int.add_mul_ediv_left _ _ (by omega)]
  omega

/-- what is borrowed from the i-th word of nought less a number -/
def bw (a : Int) (i : Nat) : Int := if a % (2 : Int) ^ (64 * i) = 0 then 0 else 1
theorem bw_zero (a : Int) : bw a 0 = 0 := by simp [bw, Int.emod_one]
theorem bw_range (a : Int) (i : Nat) : 0 ≤ bw a i ∧ bw a i ≤ 1 := by unfold bw; split <;> omega
theorem wd_neg (a : Int) (i : Nat) : wd (-a) i = (0 - wd a i - bw a i) % 18446744073709551616 := by
  unfold wd bw
  have hT := T_pos i
  generalize (2 : Int) ^ (64 * i) = T at *
  have h1 := Int.mul_ediv_add_emod a T
  have h2 := Int.emod_nonneg a (show T ≠ 0 by omega)
  have h3 := Int.emod_lt_of_pos a hT
  have e : -a / T = -(a / T) - (if a % T = 0 then 0 else 1) := by
    split
    · rename_i h
      have : -a = 0 + T * (-(a / T)) := by rw [Int.mul_neg]; omega
      rw [this, Int.add_mul_ediv_left _ _ (by omega)]; simp
    · rename_i h
      have : -a = (T - a % T) + T * (-(a / T) - 1) := by rw [Int.mul_sub, Int.mul_neg]; omega
      rw [this, Int.add_mul_ediv_left _ _ (by omega), Int.ediv_eq_zero_of_lt (by omega) (by omega)]; omega
  rw [e]
  generalize (if a % T = 0 then (0 : Int) else 1) = c
  omega
theorem bw_succ (a : Int) (i : Nat) : bw a (i + 1) = if wd a i + bw a i = 0 then 0 else 1 := by
  have key : a % ((2 : Int) ^ (64 * i) * 18446744073709551616) = (2 : Int) ^ (64 * i) * wd a i + a % (2 : Int) ^ (64 * i) := by
    unfold wd
    have hT := T_pos i
    generalize (2 : Int) ^ (64 * i) = T at *
    exact emod_mul' a T hT
  have hT := T_pos i
  have hw := wd_range a i
  show (if a % (2 : Int) ^ (64 * (i + 1)) = 0 then (0 : Int) else 1) = _
  rw [T_succ, key]
  unfold bw
  generalize (2 : Int) ^ (64 * i) = T at *
  generalize wd a i = x at *
  have h2 := Int.emod_nonneg a (show T ≠ 0 by omega)
  generalize a % T = r at *
  by_cases hx : x = 0
  · subst hx
    rw [Int.mul_zero, Int.zero_add]
    split <;> simp_all
  · have h3 : 0 < T * x := Int.mul_pos hT (by omega)
    rw [if_neg (by omega), if_neg]
    split <;> omega
end Go.Proofs.Ytelalledjbeenaa.Fl
