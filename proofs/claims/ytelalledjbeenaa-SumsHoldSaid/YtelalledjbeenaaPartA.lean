/- pick; four Accs; the sum of four. -/
import Derived.Test.YtelalledjbeenaaMgSumN
import Derived.StillTailTactics
namespace Go.Proofs.Ytelalledjbeenaa
open Go.RowKit Fl

/-- one of n -/
def PickR (n : Nat) (e : Ending) : Prop := ∃ q : Nat, q < n ∧ e = .returned (.int .i64 (q : Int))
set_option maxRecDepth 100000 in
theorem c36 (p : Int) (n : Nat) (w : World) (h1 : -9223372036854775808 ≤ p) (h2 : p ≤ 9223372036854775807) (hn : 0 < n) (hn2 : n ≤ 4611686018427387904) :
    Calls Try.prog 36 #[.int .i64 p, .int .i64 (n : Int)] w fun e w' => PickR n e ∧ w = w' := by
  have hq : ∀ m : Int, 0 ≤ m → PickR n (.returned (.int .i64 (m % (n : Int)))) := fun m hm =>
    ⟨(m % (n : Int)).toNat, by have := Int.emod_lt_of_pos m (show (0 : Int) < (n : Int) by omega); have := Int.emod_nonneg m (show (n : Int) ≠ 0 by omega); omega,
      ret_int (by have := Int.emod_nonneg m (show (n : Int) ≠ 0 by omega); omega)⟩
  have HQ := Lib.hid hq
  have hn1 : (1 : Int) ≤ (n : Int) := by omega
  clear hq
  by_cases hp : p < 0
  · have g1 : 0 ≤ -(p + 1) := by omega
    go_enter Try.func36, Try.ntmps36
    go_wp2
    go_ret
    have e := HQ.out (-(p + 1)) g1
    rw [← Int.tmod_eq_emod_of_nonneg g1, Int.neg_tmod] at e
    exact ⟨e, rfl⟩
  · have g1 : 0 ≤ p := by omega
    go_enter Try.func36, Try.ntmps36
    go_wp2
    go_ret
    exact ⟨HQ.out p g1, rfl⟩

/-! ### the sum of Accs -/
theorem joinS_comm (s t : AS) : joinS s t = joinS t s := by
  unfold joinS
  rw [Int.add_comm, Bool.or_comm, Bool.or_comm s.pos, Bool.or_comm s.neg, Bool.or_comm s.any]
theorem joinS_assoc (s t u : AS) : joinS (joinS s t) u = joinS s (joinS t u) := by
  unfold joinS
  simp only [Int.add_assoc, Bool.or_assoc]
theorem joinS_zero (s : AS) : joinS s AS.zero = s := by
  unfold joinS AS.zero
  simp
/-- one number -/
def oneS (x : Nat) : AS := addS AS.zero x
theorem addS_join (s : AS) (x : Nat) : addS s x = joinS s (oneS x) := by
  unfold oneS addS joinS AS.zero
  simp only [Bool.false_or]
  by_cases h : fin x = true
  · rw [if_pos h, if_pos h, Int.zero_add]
  · rw [if_neg h, if_neg h, Int.add_zero]
def sumS (l : List AS) : AS := l.foldr joinS AS.zero
theorem sumS_set (l : List AS) (k : Nat) (s t : AS) (h : l[k]? = some s) : sumS (l.set k (joinS s t)) = joinS (sumS l) t := by
  induction l generalizing k with
  | nil => simp at h
  | cons a r ih =>
    cases k with
    | zero =>
      simp only [List.getElem?_cons_zero, Option.some.injEq] at h
      subst h
      rw [List.set_cons_zero]
      show joinS (joinS a t) (sumS r) = joinS (joinS a (sumS r)) t
      rw [joinS_assoc, joinS_comm t, joinS_assoc]
    | succ k =>
      simp only [List.getElem?_cons_succ] at h
      rw [List.set_cons_succ]
      show joinS a (sumS (r.set k (joinS s t))) = joinS (joinS a (sumS r)) t
      rw [ih k h, joinS_assoc]
theorem sum_perm {l m : List Int} (h : l.Perm m) : l.sum = m.sum := by
  induction h with
  | nil => rfl
  | cons x _ ih => rw [List.sum_cons, List.sum_cons, ih]
  | swap x y l => simp only [List.sum_cons]; omega
  | trans _ _ a b => rw [a, b]
/-- what an Acc has that has been given a list's numbers hangs on no order -/
theorem accS_perm {l m : List Nat} (h : l.Perm m) : accS l = accS m := by
  rw [accS_eq, accS_eq]
  have a1 : sumU l = sumU m := by unfold sumU; exact sum_perm (h.map _)
  have a2 : ∀ f : Nat → Bool, l.any f = m.any f := fun f => h.any_eq
  have a3 : anyS l = anyS m := h.any_eq
  rw [a1, a3, a2 isN, a2 (fun x => decide (x = 9218868437227405312)), a2 (fun x => decide (x = 18442240474082181120))]
/-- two of a list change places -/
theorem swap_perm (m : List Nat) (i j x y : Nat) (hi : m[i]? = some x) (hj : m[j]? = some y) : ((m.set i y).set j x).Perm m := by
  have hil := (List.getElem?_eq_some_iff.1 hi).1
  have hjl := (List.getElem?_eq_some_iff.1 hj).1
  have h := Array.swap_perm (xs := m.toArray) (i := i) (j := j) (by simpa using hil) (by simpa using hjl)
  have e : (m.toArray.swap i j (by simpa using hil) (by simpa using hjl)).toList = (m.set i y).set j x := by
    have e1 := (List.getElem?_eq_some_iff.1 hi).2
    have e2 := (List.getElem?_eq_some_iff.1 hj).2
    simp [Array.swap, e1, e2]
  rw [← e]
  exact Array.perm_iff_toList_perm.1 h
theorem c36four (p : Int) (w : World) (h1 : -9223372036854775808 ≤ p) (h2 : p ≤ 9223372036854775807) :
    Calls Try.prog 36 #[.int .i64 p, .int .i64 4] w fun e w' => PickR 4 e ∧ w = w' := c36 p 4 w h1 h2 (by decide) (by decide)
instance : Std.Associative joinS := ⟨joinS_assoc⟩
instance : Std.Commutative joinS := ⟨joinS_comm⟩
/-- what is still to be joined to the Acc 'last', of four -/
def restS (ss : List AS) (last k : Nat) : AS := (List.range 4).foldr (fun j acc => if k ≤ j ∧ j ≠ last then joinS (ss.getD j AS.zero) acc else acc) AS.zero
theorem four_list (ss : List AS) (h : ss.length = 4) : ∃ a b c d, ss = [a, b, c, d] := by
  match ss, h with
  | [a, b, c, d], _ => exact ⟨a, b, c, d, rfl⟩
theorem zero_joinS (s : AS) : joinS AS.zero s = s := by rw [joinS_comm, joinS_zero]
theorem restS_start (ss : List AS) (last : Nat) (h : ss.length = 4) (hl : last < 4) : joinS (ss.getD last AS.zero) (restS ss last 0) = sumS ss := by
  obtain ⟨a, b, c, d, rfl⟩ := four_list ss h
  have hr : List.range 4 = [0, 1, 2, 3] := by decide
  rcases (by omega : last = 0 ∨ last = 1 ∨ last = 2 ∨ last = 3) with rfl | rfl | rfl | rfl <;>
    (simp only [restS, sumS, hr, List.foldr_cons, List.foldr_nil, List.getD_cons_zero, List.getD_cons_succ, joinS_zero]; simp only [show ∀ n : Nat, 0 ≤ n from Nat.zero_le, true_and]; simp [joinS_zero]; try ac_rfl)
theorem restS_end (ss : List AS) (last : Nat) : restS ss last 4 = AS.zero := by
  have hr : List.range 4 = [0, 1, 2, 3] := by decide
  simp [restS, hr]
theorem restS_same (ss : List AS) (last : Nat) (hl : last < 4) : restS ss last last = restS ss last (last + 1) := by
  have hr : List.range 4 = [0, 1, 2, 3] := by decide
  rcases (by omega : last = 0 ∨ last = 1 ∨ last = 2 ∨ last = 3) with rfl | rfl | rfl | rfl <;> simp [restS, hr]
theorem restS_step (ss : List AS) (last k : Nat) (h : ss.length = 4) (hl : last < 4) (hk : k < 4) (hne : k ≠ last) :
    joinS ((ss.set last (joinS (ss.getD last AS.zero) (ss.getD k AS.zero))).getD last AS.zero) (restS (ss.set last (joinS (ss.getD last AS.zero) (ss.getD k AS.zero))) last (k + 1)) = joinS (ss.getD last AS.zero) (restS ss last k) := by
  obtain ⟨a, b, c, d, rfl⟩ := four_list ss h
  have hr : List.range 4 = [0, 1, 2, 3] := by decide
  rcases (by omega : last = 0 ∨ last = 1 ∨ last = 2 ∨ last = 3) with rfl | rfl | rfl | rfl <;>
    rcases (by omega : k = 0 ∨ k = 1 ∨ k = 2 ∨ k = 3) with rfl | rfl | rfl | rfl <;>
    first
      | (exact absurd rfl hne)
      | (simp [restS, hr, joinS_zero]; try ac_rfl)
end Go.Proofs.Ytelalledjbeenaa
