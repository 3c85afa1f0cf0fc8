/- Hypot: the program's and the reference's tell one place. -/
import Derived.Test.YthohhepoddnbnaaGreatDoorCaB
import Derived.Test.YthohhepoddnbnaaGreatDoorLdexp
namespace Go.Proofs.YthohhepoddnbnaaGreatDoor
open Go.RowKit Fl

/-- the greatest amount of those that are numbers -/
def mxN (l : List Nat) : Nat := l.foldl (fun m x => if isN x then m else if m < rg x then rg x else m) 0
/-- the place of the sum of squares -/
def sqP (m : Int) (l : List Nat) : Int := l.foldl (fun s x => opP .add s (opP .mul (opP .quo (pl x) m) (opP .quo (pl x) m))) 0
def hypP (l : List Nat) : Int :=
  if l.any isN then 9223372036854775807 else if l.any isI then 9218868437227405312 else if mxN l = 0 then 0 else opP .mul (mxN l : Int) (sqrtP (sqP (mxN l) l))
theorem mxN_take (l : List Nat) (k x : Nat) (h : l[k]? = some x) : mxN (l.take (k + 1)) = if isN x then mxN (l.take k) else if mxN (l.take k) < rg x then rg x else mxN (l.take k) := by
  unfold mxN
  rw [List.take_add_one, h, List.foldl_append]; rfl
theorem sqP_take (m : Int) (l : List Nat) (k x : Nat) (h : l[k]? = some x) : sqP m (l.take (k + 1)) = opP .add (sqP m (l.take k)) (opP .mul (opP .quo (pl x) m) (opP .quo (pl x) m)) := by
  unfold sqP
  rw [List.take_add_one, h, List.foldl_append]; rfl
theorem any_take {p : Nat → Bool} (l : List Nat) (k x : Nat) (h : l[k]? = some x) : (l.take (k + 1)).any p = ((l.take k).any p || p x) := by
  rw [List.take_add_one, h, List.any_append]; simp
theorem rg_le {x : Nat} (h : isN x = false) : rg x ≤ 9218868437227405312 := by
  have := isN_false h
  unfold INF at this
  omega
theorem mxN_le (l : List Nat) : mxN l ≤ 9218868437227405312 := by
  unfold mxN
  have : ∀ (l : List Nat) (m : Nat), m ≤ 9218868437227405312 → l.foldl (fun m x => if isN x then m else if m < rg x then rg x else m) m ≤ 9218868437227405312 := by
    intro l
    induction l with
    | nil => intro m h; exact h
    | cons x l ih =>
      intro m h
      rw [List.foldl_cons]
      refine ih _ ?_
      by_cases hx : isN x = true
      · rw [if_pos hx]; exact h
      · rw [if_neg hx]
        have := rg_le (Bool.eq_false_iff.2 hx)
        split <;> omega
  exact this l 0 (by omega)
theorem U_le {x : Nat} (h : x ≤ 9218868437227405312) : U x := by unfold U; omega
theorem run_max_pos {P : Program} (ts : Array TypeId) (t : TypeId) (m a : Nat) (hm : m ≤ 9218868437227405312) (ha : a ≤ 9218868437227405312) (w : World) :
    (Builtin.max_ ts t #[.float .f64 m, .float .f64 a]).run P w = .ok (.float .f64 (if m < a then a else m)) w := by
  have h := order_cases m a (U_le hm) (U_le ha)
  have e1 := pl_of_pos m hm
  have e2 := pl_of_pos a ha
  rw [e1, e2] at h
  have z1 : zk (m : Int) = m := by unfold zk; rw [if_neg (by omega)]
  have z2 : zk (a : Int) = a := by unfold zk; rw [if_neg (by omega)]
  have n1 : (m : Int) ≠ 9223372036854775807 := by omega
  have n2 : (a : Int) ≠ 9223372036854775807 := by omega
  simp only [fltP, feqP, z1, z2, n1, n2, ne_eq, not_false_iff, decide_true, Bool.true_and, decide_eq_true_eq] at h
  have hL : ([Value.float .f64 m, Value.float .f64 a] : List Value) = (#[Value.float .f64 m, Value.float .f64 a] : Array Value).toList := rfl
  unfold Builtin.max_
  simp only [List.foldlM_cons, List.foldlM_nil, Builtin.max2]
  by_cases c1 : m < a
  · rw [if_pos (by omega)] at h
    rw [h, if_pos c1]; rfl
  · rw [if_neg (by omega)] at h
    by_cases c2 : m = a
    · rw [if_pos (by omega)] at h
      rw [h, if_neg c1]
      subst c2
      simp
    · rw [if_neg (by omega), if_pos (by omega)] at h
      rw [h, if_neg c1]; rfl
theorem feq_zero {m : Nat} (hm : m ≤ 9218868437227405312) : (FloatKind.f64.format.order m 0 == some Ordering.eq) = decide (m = 0) := by
  rw [f_eq m 0 (U_le hm) U_0, pl_of_pos m hm, pl_0]
  unfold feqP zk
  rw [if_neg (by omega), if_neg (by omega)]
  have n1 : (m : Int) ≠ 9223372036854775807 := by omega
  simp [n1]
theorem gt_pos {m a : Nat} (hm : m ≤ 9218868437227405312) (ha : a ≤ 9218868437227405312) : (FloatKind.f64.format.order a m == some Ordering.gt) = decide (m < a) := by
  rw [f_gt a m (U_le ha) (U_le hm), pl_of_pos m hm, pl_of_pos a ha]
  unfold fltP zk
  rw [if_neg (by omega), if_neg (by omega)]
  have n1 : (m : Int) ≠ 9223372036854775807 := by omega
  have n2 : (a : Int) ≠ 9223372036854775807 := by omega
  simp [n1, n2]
end Go.Proofs.YthohhepoddnbnaaGreatDoor
