/- Rows of words of the call's own: cells, stores, what stays. Whole numbers as 40 words of 64 bits, below nought by the two's complement: the plain laws. Steps of the relational walk by the operation's kind; each fails at once where it does not fit. -/
import Derived.Test.YtjkifbkehochoaaGreatDoorMgLgE
import Derived.Test.YtjkifbkehochoaaGreatDoorMgDhD
import Derived.Test.YtjkifbkehochoaaGreatDoorRel
namespace Go.Proofs.YtjkifbkehochoaaGreatDoor
open Go.RowKit Fl

theorem owned_put {w : World} {base n g c j : Nat} {e : TypeId} {xs : List Value} (h : w.ownsRow base e 1 (.slice (some ⟨g, 0, none⟩) n c) n xs) (hj : j < n) (v : Value) :
    (w.setCell ⟨g, j, none⟩ v).ownsRow base e 1 (.slice (some ⟨g, 0, none⟩) n c) n (xs.set j v) := by
  refine ⟨by rw [List.length_set]; exact h.1, ?_⟩
  rcases h.2 with ⟨h1, -⟩ | ⟨g', cap, cur, h1, h2, h3, h4, h5, h6, h7⟩
  · cases h1
  · injection h1 with a1 a2 a3
    injection a1 with a1
    injection a1 with a1
    subst a1 a3
    refine Or.inr ⟨g, c, cur.setIfInBounds j v, rfl, h2, ?_, h4, h5, by rw [Array.size_setIfInBounds]; exact h6, ?_⟩
    · unfold World.setCell
      simp [Array.getElem?_modify, h3]
    · rw [Array.toList_setIfInBounds, List.take_set, h7]
theorem OU.cell {w : World} {B g c n : Nat} {l : List Nat} (h : OU w B (.slice (some ⟨g, 0, none⟩) n c) l) (hn : n = l.length) {j x : Nat} (hj : l[j]? = some x) : w.cell? ⟨g, j, none⟩ = some (.int .u64 (x : Int)) ∧ w.frozen? ⟨g, j, none⟩ = false := by
  subst hn
  have hl := (List.getElem?_eq_some_iff.1 hj).1
  refine ⟨?_, World.ownsRow.frozenAt h j⟩
  rw [World.ownsRow.cellAt h j (by omega), List.getElem?_map, hj]; rfl
theorem OU.put {w : World} {B g c n : Nat} {l : List Nat} (h : OU w B (.slice (some ⟨g, 0, none⟩) n c) l) (hn : n = l.length) {j : Nat} (hj : j < l.length) (x : Nat) : OU (w.setCell ⟨g, j, none⟩ (.int .u64 (x : Int))) B (.slice (some ⟨g, 0, none⟩) n c) (l.set j x) := by
  subst hn
  have := owned_put h hj (uv x)
  unfold OU
  rw [List.length_set, List.map_set]
  exact this
theorem OU.below {w w' : World} {B : Nat} {v : Value} {l : List Nat} (h : OU w B v l) (hb : Below w.heap.size w w') : OU w' B v l := by
  obtain ⟨h1, h2⟩ := h
  refine ⟨h1, ?_⟩
  rcases h2 with h2 | ⟨g, cap, cur, e1, e2, e3, e4⟩
  · exact .inl h2
  · have hg : g < w.heap.size := (Array.getElem?_eq_some_iff.1 e3).1
    exact .inr ⟨g, cap, cur, e1, e2, by rw [hb.block g hg]; exact e3, e4⟩
theorem NA.drop {w : World} {b o : Nat} {l : List Nat} (h : NA w b o l) (k : Nat) : NA w b (o + k) (l.drop k) := ⟨h.1, fun j x hj => by
  rw [List.getElem?_drop] at hj
  have := h.2 (k + j) x hj
  rwa [← Nat.add_assoc] at this⟩
end Go.Proofs.YtjkifbkehochoaaGreatDoor

namespace Go.Proofs.YtjkifbkehochoaaGreatDoor.Fl

/-- the i-th word of a whole number -/
def wd (z : Int) (i : Nat) : Int := z / (2 : Int) ^ (64 * i) % 18446744073709551616
theorem wd_range (z : Int) (i : Nat) : 0 ≤ wd z i ∧ wd z i < 18446744073709551616 := by
  unfold wd
  exact ⟨Int.emod_nonneg _ (by decide), Int.emod_lt_of_pos _ (by decide)⟩
theorem T_pos (i : Nat) : (0 : Int) < (2 : Int) ^ (64 * i) := Int.pow_pos (by decide)
theorem T_succ (i : Nat) : (2 : Int) ^ (64 * (i + 1)) = (2 : Int) ^ (64 * i) * 18446744073709551616 := by
  rw [Nat.mul_succ, Int.pow_add]; rfl
theorem emod_mul' (a T : Int) (hT : 0 < T) : a % (T * 18446744073709551616) = T * (a / T % 18446744073709551616) + a % T := by
  have h1 := Int.mul_ediv_add_emod a T
  have h2 := Int.emod_nonneg a (show T ≠ 0 by omega)
  have h3 := Int.emod_lt_of_pos a hT
  have h4 := Int.mul_ediv_add_emod (a / T) 18446744073709551616
  have h5 := Int.emod_nonneg (a / T) (show (18446744073709551616 : Int) ≠ 0 by decide)
  have h6 := Int.emod_lt_of_pos (a / T) (show (0 : Int) < 18446744073709551616 by decide)
  generalize a / T / 18446744073709551616 = q at *
  generalize a / T % 18446744073709551616 = r at *
  generalize a % T = s at *
  have e : a = (T * r + s) + T * 18446744073709551616 * q := by
    rw [← h1, ← h4, Int.mul_add, Int.mul_assoc]; omega
  have h7 : 0 ≤ T * r := Int.mul_nonneg (by omega) h5
  have h8 : T * r + T ≤ T * 18446744073709551616 := by
    have := Int.mul_le_mul_of_nonneg_left (show r + 1 ≤ 18446744073709551616 by omega) (show 0 ≤ T by omega)
    rw [Int.mul_add, Int.mul_one] at this; exact this
  rw [e, Int.add_mul_emod_self_left, Int.emod_eq_of_lt (by omega) (by omega)]
/-- what is carried into the i-th word of a sum -/
def cy (a b : Int) (i : Nat) : Int := (a % (2 : Int) ^ (64 * i) + b % (2 : Int) ^ (64 * i)) / (2 : Int) ^ (64 * i)
theorem cy_zero (a b : Int) : cy a b 0 = 0 := by simp [cy, Int.emod_one]
theorem cy_range (a b : Int) (i : Nat) : 0 ≤ cy a b i ∧ cy a b i ≤ 1 := by
  unfold cy
  have hT := T_pos i
  generalize (2 : Int) ^ (64 * i) = T at *
  have h1 := Int.emod_nonneg a (show T ≠ 0 by omega)
  have h2 := Int.emod_nonneg b (show T ≠ 0 by omega)
  have h3 := Int.emod_lt_of_pos a hT
  have h4 := Int.emod_lt_of_pos b hT
  refine ⟨Int.ediv_nonneg (by omega) (by omega), ?_⟩
  have : (a % T + b % T) / T < 2 := Int.ediv_lt_of_lt_mul hT (by omega)
  omega
theorem div_add (a b : Int) (i : Nat) : (a + b) / (2 : Int) ^ (64 * i) = a / (2 : Int) ^ (64 * i) + b / (2 : Int) ^ (64 * i) + cy a b i := by
  unfold cy
  have hT := T_pos i
  generalize (2 : Int) ^ (64 * i) = T at *
  have h1 := Int.mul_ediv_add_emod a T
  have h2 := Int.mul_ediv_add_emod b T
  have e : a + b = (a % T + b % T) + T * (a / T + b / T) := by rw [Int.mul_add]; omega
  rw [e, Int.add_mul_ediv_left _ _ (by omega)]
  omega
theorem wd_add (a b : Int) (i : Nat) : wd (a + b) i = (wd a i + wd b i + cy a b i) % 18446744073709551616 := by
  unfold wd
  rw [div_add]
  omega
theorem cy_succ (a b : Int) (i : Nat) : cy a b (i + 1) = (wd a i + wd b i + cy a b i) / 18446744073709551616 := by
  have key : ∀ a : Int, a % ((2 : Int) ^ (64 * i) * 18446744073709551616) = (2 : Int) ^ (64 * i) * wd a i + a % (2 : Int) ^ (64 * i) := by
    intro a
    unfold wd
    have hT := T_pos i
    generalize (2 : Int) ^ (64 * i) = T at *
    exact emod_mul' a T hT
  have hT := T_pos i
  show (a % (2 : Int) ^ (64 * (i + 1)) + b % (2 : Int) ^ (64 * (i + 1))) / (2 : Int) ^ (64 * (i + 1)) = _
  rw [T_succ, key, key]
  unfold cy
  generalize (2 : Int) ^ (64 * i) = T at *
  generalize wd a i = x
  generalize wd b i = y
  rw [← Int.ediv_ediv_of_nonneg (by omega)]
  congr 1
  have e : T * x + a % T + (T * y + b % T) = (a % T + b % T) + T * (x + y) := by rw [Int.mul_add]; omega
  rw [e, Int.add_mul_ediv_left _ _ (by omega)]
  omega

/-- what is borrowed from the i-th word of nought less a number -/
def bw (a : Int) (i : Nat) : Int := if a % (2 : Int) ^ (64 * i) = 0 then 0 else 1
theorem bw_zero (a : Int) : bw a 0 = 0 := by simp [bw, Int.emod_one]
theorem bw_range (a : Int) (i : Nat) : 0 ≤ bw a i ∧ bw a i ≤ 1 := by unfold bw; split <;> omega
theorem wd_neg (a : Int) (i : Nat) : wd (-a) i = (0 - wd a i - bw a i) % 18446744073709551616 := by
  unfold wd bw
  have hT := T_pos i
  generalize (2 : Int) ^ (64 * i) = T at *
  have h1 := Int.mul_ediv_add_emod a T
  have h2 := Int.emod_nonneg a (show T ≠ 0 by omega)
  have h3 := Int.emod_lt_of_pos a hT
  have e : -a / T = -(a / T) - (if a % T = 0 then 0 else 1) := by
    split
    · rename_i h
      have : -a = 0 + T * (-(a / T)) := by rw [Int.mul_neg]; omega
      rw [this, Int.add_mul_ediv_left _ _ (by omega)]; simp
    · rename_i h
      have : -a = (T - a % T) + T * (-(a / T) - 1) := by rw [Int.mul_sub, Int.mul_neg]; omega
      rw [this, Int.add_mul_ediv_left _ _ (by omega), Int.ediv_eq_zero_of_lt (by omega) (by omega)]; omega
  rw [e]
  generalize (if a % T = 0 then (0 : Int) else 1) = c
  omega
theorem bw_succ (a : Int) (i : Nat) : bw a (i + 1) = if wd a i + bw a i = 0 then 0 else 1 := by
  have key : a % ((2 : Int) ^ (64 * i) * 18446744073709551616) = (2 : Int) ^ (64 * i) * wd a i + a % (2 : Int) ^ (64 * i) := by
    unfold wd
    have hT := T_pos i
    generalize (2 : Int) ^ (64 * i) = T at *
    exact emod_mul' a T hT
  have hT := T_pos i
  have hw := wd_range a i
  show (if a % (2 : Int) ^ (64 * (i + 1)) = 0 then (0 : Int) else 1) = _
  rw [T_succ, key]
  unfold bw
  generalize (2 : Int) ^ (64 * i) = T at *
  generalize wd a i = x at *
  have h2 := Int.emod_nonneg a (show T ≠ 0 by omega)
  generalize a % T = r at *
  by_cases hx : x = 0
  · subst hx
    rw [Int.mul_zero, Int.zero_add]
    split <;> simp_all
  · have h3 : 0 < T * x := Int.mul_pos hT (by omega)
    rw [if_neg (by omega), if_neg]
    split <;> omega
end Go.Proofs.YtjkifbkehochoaaGreatDoor.Fl

namespace Go.Proofs.YtjkifbkehochoaaGreatDoor
open Go
section
variable {P : Program} {ops : Array Oper} {C : World → Prop} {G : FuncId → Array Value → Value → Prop} {Q : Act → Prop} {rest : List Oper} {a : Act}
variable {dst : Option Tmp} {ty : TypeId} {pos : String} {af : Array Edge} {gd : Option (Nat × Bool)}

theorem rel_move {x : Operand} {v : Value} (hv : a.eval x = v) (hw : Region.wanted ⟨dst, .move x, ty, pos, af, gd⟩ (yielded ops a.tmps) = true) (k : wpRel P ops C G Q rest (a.put dst v)) :
    wpRel P ops C G Q (⟨dst, .move x, ty, pos, af, gd⟩ :: rest) a :=
  rel_val hw (fun w _ => by subst hv; rfl) k
theorem rel_assign {x : Operand} {v : Value} (hv : a.eval x = v) (hw : Region.wanted ⟨dst, .assign x, ty, pos, af, gd⟩ (yielded ops a.tmps) = true) (k : wpRel P ops C G Q rest (a.put dst v)) :
    wpRel P ops C G Q (⟨dst, .assign x, ty, pos, af, gd⟩ :: rest) a :=
  rel_val hw (fun w _ => by subst hv; rfl) k
theorem rel_pick_t {c x y : Operand} {v : Value} (hc : a.eval c = .bool true) (hv : a.eval x = v) (hw : Region.wanted ⟨dst, .pick c x y, ty, pos, af, gd⟩ (yielded ops a.tmps) = true) (k : wpRel P ops C G Q rest (a.put dst v)) :
    wpRel P ops C G Q (⟨dst, .pick c x y, ty, pos, af, gd⟩ :: rest) a :=
  rel_val hw (fun w _ => by
    subst hv
    unfold execOp
    simp only [hc]
    rfl) k
theorem rel_pick_f {c x y : Operand} {v : Value} (hc : a.eval c = .bool false) (hv : a.eval y = v) (hw : Region.wanted ⟨dst, .pick c x y, ty, pos, af, gd⟩ (yielded ops a.tmps) = true) (k : wpRel P ops C G Q rest (a.put dst v)) :
    wpRel P ops C G Q (⟨dst, .pick c x y, ty, pos, af, gd⟩ :: rest) a :=
  rel_val hw (fun w _ => by
    subst hv
    unfold execOp
    simp only [hc]
    rfl) k
/-- A call of a function by its number, the arguments by name. -/
theorem rel_callN {f : FuncId} {xs : Array Operand} {tys : Array TypeId} {args : Array Value} {v0 : Value → Prop} (hf : xs.map a.eval = args)
    (hw : Region.wanted ⟨dst, .call { callee := .value (.func f), args := xs, argTypes := tys }, ty, pos, af, gd⟩ (yielded ops a.tmps) = true)
    (h : ∀ w, C w → (execOp a.eval ⟨dst, .call { callee := .value (.func f), args := xs, argTypes := tys }, ty, pos, af, gd⟩).run P w = .ok (.enter f args) w)
    (c : ∀ w, C w → Calls P f args w fun e w' => ∃ v, e = .returned v ∧ G f args v ∧ C w') (hg : ∀ v, G f args v → v0 v) (k : ∀ v, v0 v → wpRel P ops C G Q rest (a.put dst v)) :
    wpRel P ops C G Q (⟨dst, .call { callee := .value (.func f), args := xs, argTypes := tys }, ty, pos, af, gd⟩ :: rest) a :=
  have _ := hf
  rel_call hw h c (fun v hv => k v (hg v hv))
end
end Go.Proofs.YtjkifbkehochoaaGreatDoor
