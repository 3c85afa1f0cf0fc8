/- ease: words, what an easing is, its text; jump, bad, trim, number. Easings: what they are, what is printed, what they tell, how they lie in memory. ease.steps (printed by gen_eay.py). -/
import Derived.Test.YtlgencbldbpbdaaGreatDoorEaU
import Derived.Test.YtlgencbldbpbdaaGreatDoorDnB
import Derived.Test.YtlgencbldbpbdaaGreatDoorMgDkC
import Derived.Deep.CutBlock
import Derived.Test.YtlgencbldbpbdaaGreatDoorMgDmI
namespace Go.Proofs.YtlgencbldbpbdaaGreatDoor
open Go.RowKit Fl
theorem tl_eq (s : ByteArray) (c : List UInt8) : (s.toList == c) = decide (bl s = c.map UInt8.toNat) := by
 rw [Bool.eq_iff_iff, beq_iff_eq, decide_eq_true_iff, ByteArray.toList_eq]
 unfold bl
 constructor
 ·intro h; rw [h]
 ·intro h
  exact (List.map_inj_right (fun x y h => UInt8.toNat_inj.1 h)).1 h
def aStart : List Nat := [115, 116, 97, 114, 116]
def aJStart : List Nat := [106, 117, 109, 112, 45, 115, 116, 97, 114, 116]
def aEnd : List Nat := [101, 110, 100]
def aJEnd : List Nat := [106, 117, 109, 112, 45, 101, 110, 100]
def aJNone : List Nat := [106, 117, 109, 112, 45, 110, 111, 110, 101]
def aJBoth : List Nat := [106, 117, 109, 112, 45, 98, 111, 116, 104]
def aLinear : List Nat := [108, 105, 110, 101, 97, 114]
def jumpF (l : List Nat) : Nat :=
 if l = aStart ∨ l = aJStart then 1 else if l = aEnd ∨ l = aJEnd then 2 else if l = aJNone then 3 else if l = aJBoth then 4 else 0
def jName (j : Nat) : List Nat := if j = 1 then aJStart else if j = 2 then aJEnd else if j = 3 then aJNone else aJBoth
set_option maxRecDepth 100000 in
theorem k87 (s : ByteArray) (w : World) : Calls Tryz.prog 87 #[.string s] w fun e w' => e = .returned (.int .i64 (jumpF (bl s) : Nat)) ∧ w = w' := by
 have q1 : (s.toList == [115, 116, 97, 114, 116]) = decide (bl s = aStart) := tl_eq s [115, 116, 97, 114, 116]
 have q2 : (s.toList == [106, 117, 109, 112, 45, 115, 116, 97, 114, 116]) = decide (bl s = aJStart) := tl_eq s [106, 117, 109, 112, 45, 115, 116, 97, 114, 116]
 have q3 : (s.toList == [101, 110, 100]) = decide (bl s = aEnd) := tl_eq s [101, 110, 100]
 have q4 : (s.toList == [106, 117, 109, 112, 45, 101, 110, 100]) = decide (bl s = aJEnd) := tl_eq s [106, 117, 109, 112, 45, 101, 110, 100]
 have q5 : (s.toList == [106, 117, 109, 112, 45, 110, 111, 110, 101]) = decide (bl s = aJNone) := tl_eq s [106, 117, 109, 112, 45, 110, 111, 110, 101]
 have q6 : (s.toList == [106, 117, 109, 112, 45, 98, 111, 116, 104]) = decide (bl s = aJBoth) := tl_eq s [106, 117, 109, 112, 45, 98, 111, 116, 104]
 obtain ⟨R, hR⟩ : ∃ R, R = jumpF (bl s) := ⟨_, rfl⟩
 rw [← hR]
 unfold jumpF at hR
 by_cases c1 : bl s = aStart
 ·rw [decide_eq_true c1] at q1
  rw [if_pos (.inl c1)] at hR
  subst hR
  clear q2 q3 q4 q5 q6 c1
  go_enter Tryz.func87, Tryz.ntmps87
  go_wp2
  go_ret
  exact ⟨rfl, rfl⟩
 rw [decide_eq_false c1] at q1
 by_cases c2 : bl s = aJStart
 ·rw [decide_eq_true c2] at q2
  rw [if_pos (.inr c2)] at hR
  subst hR
  clear q3 q4 q5 q6 c1 c2
  go_enter Tryz.func87, Tryz.ntmps87
  go_wp2
  go_ret
  exact ⟨rfl, rfl⟩
 rw [decide_eq_false c2] at q2
 rw [if_neg (by rintro (h | h) <;> contradiction)] at hR
 by_cases c3 : bl s = aEnd
 ·rw [decide_eq_true c3] at q3
  rw [if_pos (.inl c3)] at hR
  subst hR
  clear q4 q5 q6 c1 c2 c3
  go_enter Tryz.func87, Tryz.ntmps87
  go_wp2
  go_ret
  exact ⟨rfl, rfl⟩
 rw [decide_eq_false c3] at q3
 by_cases c4 : bl s = aJEnd
 ·rw [decide_eq_true c4] at q4
  rw [if_pos (.inr c4)] at hR
  subst hR
  clear q5 q6 c1 c2 c3 c4
  go_enter Tryz.func87, Tryz.ntmps87
  go_wp2
  go_ret
  exact ⟨rfl, rfl⟩
 rw [decide_eq_false c4] at q4
 rw [if_neg (by rintro (h | h) <;> contradiction)] at hR
 by_cases c5 : bl s = aJNone
 ·rw [decide_eq_true c5] at q5
  rw [if_pos c5] at hR
  subst hR
  clear q6 c1 c2 c3 c4 c5
  go_enter Tryz.func87, Tryz.ntmps87
  go_wp2
  go_ret
  exact ⟨rfl, rfl⟩
 rw [decide_eq_false c5] at q5
 rw [if_neg c5] at hR
 by_cases c6 : bl s = aJBoth
 ·rw [decide_eq_true c6] at q6
  rw [if_pos c6] at hR
  subst hR
  clear c1 c2 c3 c4 c5 c6
  go_enter Tryz.func87, Tryz.ntmps87
  go_wp2
  go_ret
  exact ⟨rfl, rfl⟩
 ·rw [decide_eq_false c6] at q6
  rw [if_neg c6] at hR
  subst hR
  clear c1 c2 c3 c4 c5 c6
  go_enter Tryz.func87, Tryz.ntmps87
  go_wp2
  go_ret
  exact ⟨rfl, rfl⟩
def BadR (w : World) (e : Ending) (w' : World) : Prop := ∃ N, e = .returned (.tuple #[.pointer none, .iface 111 (.pointer (some ⟨N, 0, none⟩))]) ∧ w.heap.size ≤ N ∧ N < w'.heap.size ∧ w'.cell? ⟨N, 0, none⟩ = some (.int .i64 0) ∧ w'.cell? ⟨N, 1, none⟩ = some (.int .i64 161) ∧ Below w.heap.size w w'
set_option maxRecDepth 100000 in
theorem k36 (w : World) : Calls Tryz.prog 36 #[] w fun e w' => BadR w e w' := by
 go_enter Tryz.func36, Tryz.ntmps36
 go_wp2
 go_ret2
 exact ⟨w.heap.size, rfl, Nat.le_refl _, by simp, by simp, by simp, (Below.refl _ _).alloc (Nat.le_refl _) _⟩
def trimN (l : List Nat) : List Nat := ((l.reverse.dropWhile (· == 32)).reverse).dropWhile (· == 32)
theorem drop_map (c : UInt8) : ∀ l : List UInt8, (l.dropWhile (· == c)).map UInt8.toNat = (l.map UInt8.toNat).dropWhile (· == c.toNat)
 | [] => rfl
 | x :: l => by
   rw [List.dropWhile_cons, List.map_cons, List.dropWhile_cons]
   by_cases h : x = c
   ·subst h
    rw [if_pos (beq_self_eq_true _), if_pos (beq_self_eq_true _)]
    exact drop_map x l
   ·rw [if_neg (by simpa using h), if_neg (by simpa [UInt8.toNat_inj] using h)]
    rfl
theorem trim_bl (l : List UInt8) : (Lib.trimB l 32).map UInt8.toNat = trimN (l.map UInt8.toNat) := by
 unfold Lib.trimB Lib.trimLeftB Lib.trimRightB trimN
 rw [drop_map, List.map_reverse, drop_map, List.map_reverse]
 rfl
theorem drop_len (l : List Nat) : (l.dropWhile (· == 32)).length ≤ l.length := (List.dropWhile_sublist _).length_le
theorem trimN_len (l : List Nat) : (trimN l).length ≤ l.length := by
 unfold trimN
 have h1 := drop_len (l.reverse.dropWhile (· == 32)).reverse
 have h2 := drop_len l.reverse
 rw [List.length_reverse] at h1 h2
 omega
theorem bl_mk (l : List UInt8) : bl ⟨l.toArray⟩ = l.map UInt8.toNat := rfl
set_option maxRecDepth 100000 in
theorem k37 (s : ByteArray) (w : World) (hs : s.size ≤ 9223372036854775807) : Calls Tryz.prog 37 #[.string s] w fun e w' => (∃ z : ByteArray, e = .returned (.string z) ∧ bl z = trimN (bl s) ∧ z.size ≤ s.size) ∧ Below w.heap.size w w' := by
 have C := Lib.hid (strings_Trim_one s 32 (by decide) w hs)
 have T := Lib.hid (show bl ⟨(Lib.trimB s.data.toList 32).toArray⟩ = trimN (bl s) from (bl_mk _).trans (trim_bl _))
 have L := Lib.hid (show (⟨(Lib.trimB s.data.toList 32).toArray⟩ : ByteArray).size ≤ s.size by rw [← bl_len, T.out, ← bl_len]; exact trimN_len _)
 obtain ⟨z, hz⟩ : ∃ z : ByteArray, z = ⟨(Lib.trimB s.data.toList 32).toArray⟩ := ⟨_, rfl⟩
 rw [← hz] at C T L
 clear hs hz
 go_enter Tryz.func37, Tryz.ntmps37
 go_wp2_with (go_at_call 76; refine C.out.mono ?_; rintro e w' ⟨rfl, hw⟩; have W := Lib.hid hw; clear hw)
 go_ret
 refine ⟨⟨z, rfl, T.out, L.out⟩, ?_⟩
 rcases W.out with rfl | rfl
 ·exact Below.refl _ _
 ·exact (Below.refl _ _).drew
def numE (l : List Nat) : Option Nat := if pErr l = 0 ∧ pN l = l.length ∧ rg (pW l) < INF then some (pW l) else none
theorem pW_U (l : List Nat) : U (pW l) ∧ rg (pW l) ≤ INF := by
 unfold pW
 split
 ·exact ⟨by unfold U; decide, by decide⟩
 ·have h := readF_le (fDg l) (fWh l + xI FAR (l.drop (fTo l)))
  generalize readF (fDg l) (fWh l + xI FAR (l.drop (fTo l))) = r at *
  unfold INF at h
  split
  ·refine ⟨by unfold U; omega, ?_⟩
   unfold rg INF; omega
  ·refine ⟨by unfold U; omega, ?_⟩
   unfold rg INF; omega
set_option maxRecDepth 100000 in
set_option maxHeartbeats 1000000 in
theorem k86 (s : ByteArray) (w : World) (hs : s.size ≤ 100000) : Calls Tryz.prog 86 #[.string s] w fun e w' => e = .returned (.tuple #[.float .f64 (pW (bl s)), .bool (numE (bl s)).isSome]) ∧ Below w.heap.size w w' := by
 have C := Lib.hid (lParse s w (by omega))
 have I := Lib.hid (fun wx => c130 (pW (bl s)) wx (pW_U (bl s)).1)
 have HN : (numE (bl s)).isSome = (decide (pErr (bl s) = 0) && decide (pN (bl s) = s.size) && !isI (pW (bl s))) := by
  have h := (pW_U (bl s)).2
  unfold numE isI
  rw [bl_len]
  unfold INF at h ⊢
  by_cases c1 : pErr (bl s) = 0 <;> by_cases c2 : pN (bl s) = s.size <;> by_cases c3 : rg (pW (bl s)) = 9218868437227405312
  all_goals first
   | (rw [if_pos ⟨c1, c2, by omega⟩, decide_eq_true c1, decide_eq_true c2, decide_eq_false c3]; rfl)
   | (rw [if_neg (by omega)]; simp [c1, c2, c3])
 obtain ⟨R, hR⟩ : ∃ R, R = (numE (bl s)).isSome := ⟨_, rfl⟩
 rw [← hR] at HN ⊢
 have hz := Lib.hid (show (s.size : Int) ≤ 100000 by omega)
 clear hR hs
 generalize pW (bl s) = x at *
 generalize pN (bl s) = N at *
 generalize pErr (bl s) = q at *
 by_cases c1 : q = 0
 ·subst c1
  by_cases c2 : N = s.size
  ·subst c2
   cases c3 : isI x
   all_goals
    rw [c3] at I HN
    have HR := Lib.hid HN
    clear HN c3
    go_enter Tryz.func86, Tryz.ntmps86
    go_wp2_with (first | (go_at_call 142; refine C.out.mono ?_; rintro e w' ⟨rfl, hb⟩; have B := Lib.hid hb; clear hb) | (go_at_call 82; refine (I.out _).mono ?_; rintro e w1 ⟨rfl, rfl⟩))
    go_ret2
    exact ⟨by rw [HR.out]; simp, B.out⟩
  ·have c2i : ¬ (N : Int) = (s.size : Int) := by omega
   rw [decide_eq_false c2] at HN
   have HR := Lib.hid HN
   clear HN c2
   go_enter Tryz.func86, Tryz.ntmps86
   go_wp2_with (first | (go_at_call 142; refine C.out.mono ?_; rintro e w' ⟨rfl, hb⟩; have B := Lib.hid hb; clear hb))
   go_ret2
   exact ⟨by rw [HR.out]; simp, B.out⟩
 ·have c1i : ¬ (q : Int) = 0 := by omega
  rw [decide_eq_false c1] at HN
  have HR := Lib.hid HN
  clear HN c1
  go_enter Tryz.func86, Tryz.ntmps86
  go_wp2_with (first | (go_at_call 142; refine C.out.mono ?_; rintro e w' ⟨rfl, hb⟩; have B := Lib.hid hb; clear hb))
  go_ret2
  exact ⟨by rw [HR.out]; simp, B.out⟩
end Go.Proofs.YtlgencbldbpbdaaGreatDoor
namespace Go.Proofs.YtlgencbldbpbdaaGreatDoor
open Go.RowKit Fl
inductive Ez where
 | line : Ez
 | curve : Nat → Nat → Nat → Nat → Ez
 | steps : Nat → Nat → Ez
 | pts : List (Nat × List Nat) → Ez
def aSteps : List Nat := [115, 116, 101, 112, 115, 40]
def aCurve : List Nat := [99, 117, 98, 105, 99, 45, 98, 101, 122, 105, 101, 114, 40]
def aPts : List Nat := [108, 105, 110, 101, 97, 114, 40]
def ptT (p : Nat × List Nat) : List Nat := printF p.1 ++ p.2.flatMap (fun q => 32 :: (printF q ++ [37]))
def joinN : List (List Nat) → List Nat
 | [] => []
 | [a] => a
 | a :: b :: l => a ++ [44, 32] ++ joinN (b :: l)
def textE : Ez → List Nat
 | .line => aLinear
 | .curve a b c d => aCurve ++ printF a ++ [44, 32] ++ printF b ++ [44, 32] ++ printF c ++ [44, 32] ++ printF d ++ [41]
 | .steps n j => aSteps ++ dgs n ++ [44, 32] ++ jName j ++ [41]
 | .pts l => aPts ++ joinN (l.map ptT) ++ [41]
def bezP (p q t : Int) : Int :=
 opP .add (opP .add (opP .mul (opP .mul (opP .mul (opP .mul (iP 3) p) (opP .sub (iP 1) t)) (opP .sub (iP 1) t)) t) (opP .mul (opP .mul (opP .mul (opP .mul (iP 3) q) (opP .sub (iP 1) t)) t) t)) (opP .mul (opP .mul t t) t)
def halfP (l h : Int) : Int := opP .quo (opP .add l h) (iP 2)
def bisP (a c x : Int) : Nat → Int × Int → Int × Int
 | 0, s => s
 | n + 1, s => bisP a c x n (if fltP (bezP a c (halfP s.1 s.2)) x = true then (halfP s.1 s.2, s.2) else (s.1, halfP s.1 s.2))
def bentP (a b c d x : Int) : Int :=
 if fltP x 0 = true then (if fltP 0 a = true then opP .mul (opP .quo b a) x else if fltP 0 c = true then opP .mul (opP .quo d c) x else 0)
 else if fltP (iP 1) x = true then
  (if fltP c (iP 1) = true then opP .add (iP 1) (opP .mul (opP .quo (opP .sub d (iP 1)) (opP .sub c (iP 1))) (opP .sub x (iP 1)))
   else if fltP a (iP 1) = true then opP .add (iP 1) (opP .mul (opP .quo (opP .sub b (iP 1)) (opP .sub a (iP 1))) (opP .sub x (iP 1)))
   else iP 1)
 else if feqP x 0 = true ∨ feqP x (iP 1) = true then x
 else bezP b d (halfP (bisP a c x 50 (0, iP 1)).1 (bisP a c x 50 (0, iP 1)).2)
def entP (l : List (Nat × List Nat)) : List (Int × Option Int) :=
 l.flatMap fun p => if p.2 = [] then [(pl p.1, none)] else p.2.map fun q => (pl p.1, some (opP .quo (pl q) (iP 100)))
def headP : List (Int × Option Int) → List (Int × Option Int)
 | [] => []
 | (o, a) :: r => (o, some (a.getD 0)) :: r
def lastP : List (Int × Option Int) → List (Int × Option Int)
 | [] => []
 | [(o, a)] => [(o, some (a.getD (iP 1)))]
 | x :: y :: r => x :: lastP (y :: r)
def riseP (most : Int) : List (Int × Option Int) → List (Int × Option Int)
 | [] => []
 | (o, none) :: r => (o, none) :: riseP most r
 | (o, some a) :: r => (o, some (if fltP a most = true then most else a)) :: riseP (if fltP a most = true then most else a) r
def firstA : List (Int × Option Int) → Int
 | (_, some a) :: _ => a
 | _ => 0
def gapN : List (Int × Option Int) → Nat
 | (_, none) :: r => gapN r + 1
 | _ => 0
def nextA : List (Int × Option Int) → Int
 | [] => 0
 | (_, none) :: r => nextA r
 | (_, some a) :: _ => a
def fillP (fr : Int) (k : Nat) : List (Int × Option Int) → List (Int × Int)
 | [] => []
 | (o, some a) :: r => (o, a) :: fillP a 0 r
 | (o, none) :: r => (o, opP .add fr (opP .mul (opP .sub (nextA r) fr) (opP .quo (iP (k + 1 : Nat)) (opP .add (iP (k + 1 + gapN r : Nat)) (iP 1))))) :: fillP fr (k + 1) r
def rowsP (l : List (Nat × List Nat)) : List (Int × Int) :=
 let e := lastP (headP (entP l))
 fillP 0 0 (riseP (firstA e) e)
def lastLe (x : Int) : List (Int × Int) → Nat → Nat → Nat
 | [], _, k => k
 | (_, a) :: r, i, k => lastLe x r (i + 1) (if fleP a x = true then i else k)
def alongP (l : List (Int × Int)) (x : Int) : Int :=
 let k := min (lastLe x l 0 0) (l.length - 2)
 let a := l.getD k (0, 0)
 let b := l.getD (k + 1) (0, 0)
 if feqP a.2 b.2 = true then b.1 else opP .add a.1 (opP .mul (opP .quo (opP .sub x a.2) (opP .sub b.2 a.2)) (opP .sub b.1 a.1))
def atP (z : Ez) (x : Int) (before : Bool) : Int :=
 if x = 9223372036854775807 then x else
 match z with
 | .line => x
 | .curve a b c d => bentP (pl a) (pl b) (pl c) (pl d) x
 | .steps n j => stepsP n j x before
 | .pts l => alongP (rowsP l) x
abbrev ptr (b : Nat) : Value := .pointer (some ⟨b, 0, none⟩)
def FnAt (w : World) (z : Ez) (v : Value) : Prop :=
 match z with
 | .line => v = .func (.func 38) #[] #[]
 | .curve a b c d => U a ∧ U b ∧ U c ∧ U d ∧ ∃ p q r s, v = .func (.func 78) #[] #[ptr p, ptr q, ptr r, ptr s] ∧ p < w.heap.size ∧ q < w.heap.size ∧ r < w.heap.size ∧ s < w.heap.size ∧
   w.cell? ⟨p, 0, none⟩ = some (.float .f64 a) ∧ w.cell? ⟨q, 0, none⟩ = some (.float .f64 b) ∧ w.cell? ⟨r, 0, none⟩ = some (.float .f64 c) ∧ w.cell? ⟨s, 0, none⟩ = some (.float .f64 d)
 | .steps n j => 1 ≤ n ∧ n ≤ 999999999 ∧ 1 ≤ j ∧ j ≤ 4 ∧ ∃ p q r m, v = .func (.func 80) #[] #[ptr p, ptr q, ptr r] ∧ p < w.heap.size ∧ q < w.heap.size ∧ r < w.heap.size ∧
   w.cell? ⟨p, 0, none⟩ = some (.int .i64 n) ∧ w.cell? ⟨q, 0, none⟩ = some (.int .i64 j) ∧ w.cell? ⟨r, 0, none⟩ = some (.float .f64 m) ∧ RV m (mP n j)
 | .pts l => ∃ p A n c, v = .func (.func 94) #[] #[ptr p] ∧ p < w.heap.size ∧ A < w.heap.size ∧ 2 ≤ n ∧ n ≤ 1000 ∧ n ≤ c ∧ (rowsP l).length = n ∧ w.cell? ⟨p, 0, none⟩ = some (.slice (some ⟨A, 0, none⟩) n c) ∧
   ∀ k r, (rowsP l)[k]? = some r → ∃ o a, RV o r.1 ∧ RV a r.2 ∧ w.cell? ⟨A, k * 3, none⟩ = some (.float .f64 o) ∧ w.cell? ⟨A, k * 3 + 1, none⟩ = some (.float .f64 a) ∧ w.cell? ⟨A, k * 3 + 2, none⟩ = some (.bool true)
theorem FnAt.below {w w' : World} {B : Nat} {z : Ez} {v : Value} (h : FnAt w z v) (hb : Below w.heap.size w w') : FnAt w' z v := by
 have sz := hb.size
 cases z with
 | line => exact h
 | curve a b c d =>
   obtain ⟨u1, u2, u3, u4, p, q, r, s, e, l1, l2, l3, l4, k1, k2, k3, k4⟩ := h
   exact ⟨u1, u2, u3, u4, p, q, r, s, e, by omega, by omega, by omega, by omega, (hb.cell l1).trans k1, (hb.cell l2).trans k2, (hb.cell l3).trans k3, (hb.cell l4).trans k4⟩
 | steps n j =>
   obtain ⟨n1, n2, j1, j2, p, q, r, m, e, l1, l2, l3, k1, k2, k3, hm⟩ := h
   exact ⟨n1, n2, j1, j2, p, q, r, m, e, by omega, by omega, by omega, (hb.cell l1).trans k1, (hb.cell l2).trans k2, (hb.cell l3).trans k3, hm⟩
 | pts l =>
   obtain ⟨p, A, n, c, e, l1, l2, n1, n2, nc, hl, k1, hk⟩ := h
   refine ⟨p, A, n, c, e, by omega, by omega, n1, n2, nc, hl, (hb.cell l1).trans k1, fun k r hr => ?_⟩
   obtain ⟨o, a, ho, ha, c1, c2, c3⟩ := hk k r hr
   exact ⟨o, a, ho, ha, (hb.cell (p := ⟨A, _, none⟩) l2).trans c1, (hb.cell (p := ⟨A, _, none⟩) l2).trans c2, (hb.cell (p := ⟨A, _, none⟩) l2).trans c3⟩
def EzAt (w : World) (b : Nat) (z : Ez) : Prop := b < w.heap.size ∧ ∃ (s : ByteArray) (v : Value), w.cell? ⟨b, 0, none⟩ = some (.string s) ∧ bl s = textE z ∧ w.cell? ⟨b, 1, none⟩ = some v ∧ FnAt w z v
theorem EzAt.below {w w' : World} {b : Nat} {z : Ez} (h : EzAt w b z) (hb : Below w.heap.size w w') : EzAt w' b z := by
 obtain ⟨l, s, v, c1, e, c2, f⟩ := h
 exact ⟨Nat.lt_of_lt_of_le l hb.size, s, v, (hb.cell l).trans c1, e, (hb.cell l).trans c2, f.below (B := 0) hb⟩
def OkR (w : World) (z : Ez) (e : Ending) (w' : World) : Prop := ∃ b, e = .returned (.tuple #[ptr b, .nilIface]) ∧ w.heap.size ≤ b ∧ EzAt w' b z ∧ Below w.heap.size w w'
end Go.Proofs.YtlgencbldbpbdaaGreatDoor
namespace Go.Proofs.YtlgencbldbpbdaaGreatDoor
open Go.RowKit Fl
theorem wp_genY {P : Program} {c : Code} {Q : Exit → Act → World → Prop} {a : Act} {w : World} (R : World → Prop) (h : R w) (k : ∀ wx, R wx → c.wp P Q a wx) : c.wp P Q a w := k w h
theorem store_f {W : World} {b o : Nat} (x : Nat) (h1 : (W.cell? ⟨b, o, none⟩).isSome = true) (h2 : W.frozen? ⟨b, o, none⟩ = false) : (store ⟨b, o, none⟩ (.float .f64 x)).run Tryz.prog W = .ok () (W.setCell ⟨b, o, none⟩ (.float .f64 x)) := by
 obtain ⟨v, hv⟩ := Option.isSome_iff_exists.1 h1
 rw [run_store Tryz.prog _ _ _ _ rfl, hv, h2]; rfl
theorem cItE (n : Nat) (h1 : n ≤ 999999999) (w : World) (ht : PowTab w) : Calls Tryz.prog 17 #[.int .i64 n] w fun e w' => (∃ r : ByteArray, e = .returned (.string r) ∧ bl r = dgs n ∧ r.size ≤ 9) ∧ Below w.heap.size w w' := by
 refine (cItoaBig n (by omega) (by omega) w ht).mono ?_
 rintro e w' ⟨rfl, j, os, rfl⟩
 rw [Lib.itoa_nonneg]
 have h2 : (dgs n).length ≤ 9 := by
  rw [dgs_len]
  exact nd_le (by have : (10 : Nat) ^ 9 = 1000000000 := by decide
                  omega) (by decide)
 exact ⟨⟨_, rfl, by rw [bl_dec], by rw [← bl_len, bl_dec]; exact h2⟩, Lib.below_grow w.heap.size w (Nat.le_refl _) j os⟩
theorem bl_steps : bl ⟨#[115, 116, 101, 112, 115, 40]⟩ = aSteps := rfl
theorem bl_comma : bl ⟨#[44, 32]⟩ = [44, 32] := rfl
theorem bl_close : bl ⟨#[41]⟩ = [41] := rfl
theorem bl_j1 : bl ⟨#[106, 117, 109, 112, 45, 115, 116, 97, 114, 116]⟩ = jName 1 := rfl
theorem bl_j2 : bl ⟨#[106, 117, 109, 112, 45, 101, 110, 100]⟩ = jName 2 := rfl
theorem bl_j3 : bl ⟨#[106, 117, 109, 112, 45, 110, 111, 110, 101]⟩ = jName 3 := rfl
theorem bl_j4 : bl ⟨#[106, 117, 109, 112, 45, 98, 111, 116, 104]⟩ = jName 4 := rfl
theorem tx_steps (n j : Nat) : aSteps ++ dgs n ++ [44, 32] ++ jName j ++ [41] = textE (.steps n j) := rfl
theorem mP_1 (n : Nat) : mP n 1 = iP n := by unfold mP; rw [if_neg (by decide), if_neg (by decide)]
theorem mP_2 (n : Nat) : mP n 2 = iP n := by unfold mP; rw [if_neg (by decide), if_neg (by decide)]
theorem mP_3 (n : Nat) : mP n 3 = opP .sub (iP n) (iP 1) := by unfold mP; rw [if_pos rfl]
theorem mP_4 (n : Nat) : mP n 4 = opP .add (iP n) (iP 1) := by unfold mP; rw [if_neg (by decide), if_pos rfl]
def strs5 : Array Value := #[.string ⟨#[]⟩, .string ⟨#[106, 117, 109, 112, 45, 115, 116, 97, 114, 116]⟩, .string ⟨#[106, 117, 109, 112, 45, 101, 110, 100]⟩, .string ⟨#[106, 117, 109, 112, 45, 110, 111, 110, 101]⟩, .string ⟨#[106, 117, 109, 112, 45, 98, 111, 116, 104]⟩]
def SM (w : World) (n j m : Nat) (wx : World) : Prop := Below w.heap.size w wx ∧ w.heap.size + 4 ≤ wx.heap.size ∧ wx.cell? ⟨w.heap.size, 0, none⟩ = some (.int .i64 n) ∧ wx.cell? ⟨w.heap.size + 1, 0, none⟩ = some (.int .i64 j) ∧
 (∀ k u, strs5[k]? = some u → wx.cell? ⟨w.heap.size + 1 + 1, k, none⟩ = some u) ∧ wx.cell? ⟨w.heap.size + 1 + 1 + 1, 0, none⟩ = some (.float .f64 m)
theorem sm_four (w : World) (n j : Nat) (x : Nat) : SM w n j x ((((w.alloc (Obj.cells #[Value.int IntKind.i64 n] 3)).alloc (Obj.cells #[Value.int IntKind.i64 j] 93)).alloc (Obj.cells strs5 9)).alloc (Obj.cells #[Value.float FloatKind.f64 x] 31)) := by
 have b0 := (Below.refl w.heap.size w).alloc (Nat.le_refl _) (Obj.cells #[Value.int IntKind.i64 n] 3)
 have b1 := b0.alloc b0.size (Obj.cells #[Value.int IntKind.i64 j] 93)
 have b2 := b1.alloc b1.size (Obj.cells strs5 9)
 have b3 := b2.alloc b2.size (Obj.cells #[Value.float FloatKind.f64 x] 31)
 refine ⟨b3, by simp, by simp [go_sem], by simp [go_sem], fun k u hk => ?_, by simp [go_sem]⟩
 have hk5 : k < 5 := by
  rcases Nat.lt_or_ge k 5 with h | h
  ·exact h
  ·rw [Array.getElem?_eq_none (by show 5 ≤ k; exact h)] at hk; cases hk
 have e : w.heap.size + 1 + 1 = ((w.alloc (Obj.cells #[Value.int IntKind.i64 n] 3)).alloc (Obj.cells #[Value.int IntKind.i64 j] 93)).heap.size := by simp
 rw [e]
 have c := World.cell?_alloc_new ((w.alloc (Obj.cells #[Value.int IntKind.i64 n] 3)).alloc (Obj.cells #[Value.int IntKind.i64 j] 93)) strs5 9 k
 have b := ((Below.refl _ (((w.alloc (Obj.cells #[Value.int IntKind.i64 n] 3)).alloc (Obj.cells #[Value.int IntKind.i64 j] 93)).alloc (Obj.cells strs5 9))).alloc (Nat.le_refl _) (Obj.cells #[Value.float FloatKind.f64 x] 31)).cell (p := ⟨((w.alloc (Obj.cells #[Value.int IntKind.i64 n] 3)).alloc (Obj.cells #[Value.int IntKind.i64 j] 93)).heap.size, k, none⟩) (by simp)
 exact b.trans (c.trans hk)
theorem SM.drewN {w wx : World} {n j m : Nat} (h : SM w n j m wx) (k : Nat) : SM w n j m (wx.drewN k) := ⟨⟨h.1.os, h.1.tape, h.1.output, h.1.size, h.1.block⟩, h.2.1, h.2.2.1, h.2.2.2.1, h.2.2.2.2.1, h.2.2.2.2.2⟩
theorem SM.set {w wx : World} {n j m : Nat} (h : SM w n j m wx) (x : Nat) : SM w n j x (wx.setCell ⟨w.heap.size + 1 + 1 + 1, 0, none⟩ (.float .f64 x)) := by
 have ne : ∀ b o, b < w.heap.size + 3 → (wx.setCell ⟨w.heap.size + 1 + 1 + 1, 0, none⟩ (.float .f64 x)).cell? ⟨b, o, none⟩ = wx.cell? ⟨b, o, none⟩ := fun b o hb =>
  World.cell?_of_block (Below.heap_setCell wx ⟨w.heap.size + 1 + 1 + 1, 0, none⟩ (.float .f64 x) b (by show b ≠ w.heap.size + 1 + 1 + 1; omega))
 refine ⟨h.1.setCell (by show w.heap.size ≤ w.heap.size + 1 + 1 + 1; omega) _, by simpa using h.2.1, (ne _ _ (by omega)).trans h.2.2.1, (ne _ _ (by omega)).trans h.2.2.2.1, fun k u hk => (ne _ _ (by omega)).trans (h.2.2.2.2.1 k u hk), ?_⟩
 exact World.cell?_setCell_same _ _ _ h.2.2.2.2.2
set_option maxRecDepth 100000 in
set_option maxHeartbeats 1000000 in
theorem k40_1 (n : Nat) (w : World) (hn : 1 ≤ n) (hn2 : n ≤ 999999999) (ht : PowTab w) : Calls Tryz.prog 40 #[.int .i64 n, .int .i64 1] w fun e w' => ∃ b, e = .returned (ptr b) ∧ w.heap.size ≤ b ∧ EzAt w' b (.steps n 1) ∧ Below w.heap.size w w' := by
 obtain ⟨W3, hW3⟩ : ∃ W3, W3 = (((w.alloc (Obj.cells #[Value.int IntKind.i64 n] 3)).alloc (Obj.cells #[Value.int IntKind.i64 1] 93)).alloc (Obj.cells strs5 9)) := ⟨_, rfl⟩
 have s3 : W3.heap.size = w.heap.size + 1 + 1 + 1 := by rw [hW3]; simp
 have st1 : (store ⟨w.heap.size + 1 + 1 + 1, 0, none⟩ (.float .f64 (fz n))).run Tryz.prog (W3.alloc (Obj.cells #[Value.float FloatKind.f64 0] 31)) = .ok () ((W3.alloc (Obj.cells #[Value.float FloatKind.f64 0] 31)).setCell ⟨w.heap.size + 1 + 1 + 1, 0, none⟩ (.float .f64 (fz n))) := store_f _ (by rw [← s3]; simp [go_sem]) (by rw [← s3]; simp [go_sem])
 have hfz : floatOfInt .f64 (n : Int) = fz n := rfl
 have HN := Lib.hid (And.intro hn hn2)
 have HT := Lib.hid ht
 have HW := Lib.hid (show SM w n 1 (fz n) (W3.alloc (Obj.cells #[Value.float FloatKind.f64 (fz n)] 31)) by rw [hW3]; exact sm_four w n 1 (fz n))
 rw [hW3] at st1 HW
 clear hn hn2 ht hW3 s3
 unfold strs5 at st1 HW
 go_enter Tryz.func40, Tryz.ntmps40
 go_upto_region 8 with fail
 refine wp_genY (fun wx => ∃ m, RV m (mP n 1) ∧ SM w n 1 m wx) ⟨_, (by rw [mP_1]; exact fz_RV n), HW.out⟩ ?_
 rintro wx ⟨m, hm, SMx⟩
 have H := Lib.hid SMx
 have HMM := Lib.hid hm
 clear st1 HW SMx hm
 have LD : ∀ w', Below wx.heap.size wx w' → ∀ b o v, b < w.heap.size + 4 → wx.cell? ⟨b, o, none⟩ = some v → w'.cell? ⟨b, o, none⟩ = some v := fun w' hb b o v hlt hc => (hb.cell (p := ⟨b, o, none⟩) (Nat.lt_of_lt_of_le hlt H.out.2.1)).trans hc
 refine wp_region_rel 11 (fun w' => Below wx.heap.size wx w') (fun _ _ v => ∃ s : ByteArray, v = .string s ∧ bl s = dgs n ∧ s.size ≤ 9) (by kernel_rfl) (by kernel_rfl) ((Below.refl _ _).drew) ?_
 simp only [List.take_succ_cons, List.take_zero, List.drop_succ_cons, List.drop_zero]
 refine rel_val (v := .int .i64 n) rfl (fun w' hw => by
  have c := LD w' hw _ _ _ (by omega) H.out.2.2.1
  unfold execOp
  go_simp) ?_
 simp only [Act.put, List.setIfInBounds_toArray, List.set_cons_succ, List.set_cons_zero]
 refine rel_call rfl (f := 17) (args := #[.int .i64 n]) (fun w' hw => by unfold execOp; go_simp) (fun w' hw => (cItE n HN.out.2 w' ((HT.out.below H.out.1).below hw)).mono fun e w2 ⟨⟨s, he, h1, h2⟩, hb⟩ => ⟨_, he, ⟨s, rfl, h1, h2⟩, hw.trans (hb.mono hw.size)⟩) ?_
 rintro v ⟨s, rfl, hs, hz⟩
 simp only [Act.put, List.setIfInBounds_toArray, List.set_cons_succ, List.set_cons_zero]
 refine rel_val (v := .string (⟨#[115, 116, 101, 112, 115, 40]⟩ ++ s)) rfl (fun w' hw => by unfold execOp; go_simp; omega) ?_
 simp only [Act.put, List.setIfInBounds_toArray, List.set_cons_succ, List.set_cons_zero]
 refine rel_val (v := .string (⟨#[115, 116, 101, 112, 115, 40]⟩ ++ s ++ ⟨#[44, 32]⟩)) rfl (fun w' hw => by unfold execOp; go_simp; omega) ?_
 simp only [Act.put, List.setIfInBounds_toArray, List.set_cons_succ, List.set_cons_zero]
 refine rel_move (v := .slice (some ⟨w.heap.size + 1 + 1, 0, none⟩) 5 5) rfl rfl ?_
 simp only [Act.put, List.setIfInBounds_toArray, List.set_cons_succ, List.set_cons_zero]
 refine rel_val (v := .int .i64 1) rfl (fun w' hw => by
  have c := LD w' hw _ _ _ (by omega) H.out.2.2.2.1
  unfold execOp
  go_simp) ?_
 simp only [Act.put, List.setIfInBounds_toArray, List.set_cons_succ, List.set_cons_zero]
 refine rel_val (v := .pointer (some ⟨w.heap.size + 1 + 1, 1, none⟩)) rfl (fun w' hw => by unfold execOp; go_simp) ?_
 simp only [Act.put, List.setIfInBounds_toArray, List.set_cons_succ, List.set_cons_zero]
 refine rel_val (v := .string ⟨#[106, 117, 109, 112, 45, 115, 116, 97, 114, 116]⟩) rfl (fun w' hw => by
  have c := LD w' hw _ _ _ (by omega) (H.out.2.2.2.2.1 1 (.string ⟨#[106, 117, 109, 112, 45, 115, 116, 97, 114, 116]⟩) rfl)
  unfold execOp
  go_simp) ?_
 simp only [Act.put, List.setIfInBounds_toArray, List.set_cons_succ, List.set_cons_zero]
 refine rel_val (v := .string (⟨#[115, 116, 101, 112, 115, 40]⟩ ++ s ++ ⟨#[44, 32]⟩ ++ ⟨#[106, 117, 109, 112, 45, 115, 116, 97, 114, 116]⟩)) rfl (fun w' hw => by unfold execOp; go_simp; omega) ?_
 simp only [Act.put, List.setIfInBounds_toArray, List.set_cons_succ, List.set_cons_zero]
 refine rel_val (v := .string (⟨#[115, 116, 101, 112, 115, 40]⟩ ++ s ++ ⟨#[44, 32]⟩ ++ ⟨#[106, 117, 109, 112, 45, 115, 116, 97, 114, 116]⟩ ++ ⟨#[41]⟩)) rfl (fun w' hw => by unfold execOp; go_simp; omega) ?_
 simp only [Act.put, List.setIfInBounds_toArray, List.set_cons_succ, List.set_cons_zero]
 refine rel_assign (v := .string (⟨#[115, 116, 101, 112, 115, 40]⟩ ++ s ++ ⟨#[44, 32]⟩ ++ ⟨#[106, 117, 109, 112, 45, 115, 116, 97, 114, 116]⟩ ++ ⟨#[41]⟩)) rfl rfl ?_
 simp only [Act.put, List.setIfInBounds_toArray, List.set_cons_succ, List.set_cons_zero]
 refine rel_nil ?_
 intro w' hw
 have TX : Hid (bl (⟨#[115, 116, 101, 112, 115, 40]⟩ ++ s ++ ⟨#[44, 32]⟩ ++ ⟨#[106, 117, 109, 112, 45, 115, 116, 97, 114, 116]⟩ ++ ⟨#[41]⟩) = textE (.steps n 1)) := Lib.hid (by rw [bl_append, bl_append, bl_append, bl_append, hs, bl_steps, bl_comma, bl_close, bl_j1]; exact tx_steps n 1)
 have F : Hid (FnAt w' (.steps n 1) (.func (.func 80) #[] #[ptr w.heap.size, ptr (w.heap.size + 1), ptr (w.heap.size + 1 + 1 + 1)])) := Lib.hid (by
  have hz2 := hw.size
  have hz3 := H.out.2.1
  exact ⟨HN.out.1, HN.out.2, by decide, by decide, _, _, _, m, rfl, by omega, by omega, by omega, LD w' hw _ _ _ (by omega) H.out.2.2.1, LD w' hw _ _ _ (by omega) H.out.2.2.2.1, LD w' hw _ _ _ (by omega) H.out.2.2.2.2.2, HMM.out⟩)
 have HB := Lib.hid (H.out.1.trans (hw.mono H.out.1.size))
 obtain ⟨tx, htx⟩ : ∃ tx, tx = ⟨#[115, 116, 101, 112, 115, 40]⟩ ++ s ++ ⟨#[44, 32]⟩ ++ ⟨#[106, 117, 109, 112, 45, 115, 116, 97, 114, 116]⟩ ++ ⟨#[41]⟩ := ⟨_, rfl⟩
 rw [← htx] at TX ⊢
 clear hs hz htx LD hw
 go_wp2
 go_ret
 exact ⟨w'.heap.size, rfl, HB.out.size, ⟨by simp, tx, _, by simp [go_sem], TX.out, by simp [go_sem], F.out.below (B := 0) ((Below.refl _ w').alloc (Nat.le_refl _) _)⟩, HB.out.alloc HB.out.size _⟩
set_option maxRecDepth 100000 in
set_option maxHeartbeats 1000000 in
theorem k40_2 (n : Nat) (w : World) (hn : 1 ≤ n) (hn2 : n ≤ 999999999) (ht : PowTab w) : Calls Tryz.prog 40 #[.int .i64 n, .int .i64 2] w fun e w' => ∃ b, e = .returned (ptr b) ∧ w.heap.size ≤ b ∧ EzAt w' b (.steps n 2) ∧ Below w.heap.size w w' := by
 obtain ⟨W3, hW3⟩ : ∃ W3, W3 = (((w.alloc (Obj.cells #[Value.int IntKind.i64 n] 3)).alloc (Obj.cells #[Value.int IntKind.i64 2] 93)).alloc (Obj.cells strs5 9)) := ⟨_, rfl⟩
 have s3 : W3.heap.size = w.heap.size + 1 + 1 + 1 := by rw [hW3]; simp
 have st1 : (store ⟨w.heap.size + 1 + 1 + 1, 0, none⟩ (.float .f64 (fz n))).run Tryz.prog (W3.alloc (Obj.cells #[Value.float FloatKind.f64 0] 31)) = .ok () ((W3.alloc (Obj.cells #[Value.float FloatKind.f64 0] 31)).setCell ⟨w.heap.size + 1 + 1 + 1, 0, none⟩ (.float .f64 (fz n))) := store_f _ (by rw [← s3]; simp [go_sem]) (by rw [← s3]; simp [go_sem])
 have hfz : floatOfInt .f64 (n : Int) = fz n := rfl
 have HN := Lib.hid (And.intro hn hn2)
 have HT := Lib.hid ht
 have HW := Lib.hid (show SM w n 2 (fz n) (W3.alloc (Obj.cells #[Value.float FloatKind.f64 (fz n)] 31)) by rw [hW3]; exact sm_four w n 2 (fz n))
 rw [hW3] at st1 HW
 clear hn hn2 ht hW3 s3
 unfold strs5 at st1 HW
 go_enter Tryz.func40, Tryz.ntmps40
 go_upto_region 8 with fail
 refine wp_genY (fun wx => ∃ m, RV m (mP n 2) ∧ SM w n 2 m wx) ⟨_, (by rw [mP_2]; exact fz_RV n), HW.out⟩ ?_
 rintro wx ⟨m, hm, SMx⟩
 have H := Lib.hid SMx
 have HMM := Lib.hid hm
 clear st1 HW SMx hm
 have LD : ∀ w', Below wx.heap.size wx w' → ∀ b o v, b < w.heap.size + 4 → wx.cell? ⟨b, o, none⟩ = some v → w'.cell? ⟨b, o, none⟩ = some v := fun w' hb b o v hlt hc => (hb.cell (p := ⟨b, o, none⟩) (Nat.lt_of_lt_of_le hlt H.out.2.1)).trans hc
 refine wp_region_rel 11 (fun w' => Below wx.heap.size wx w') (fun _ _ v => ∃ s : ByteArray, v = .string s ∧ bl s = dgs n ∧ s.size ≤ 9) (by kernel_rfl) (by kernel_rfl) ((Below.refl _ _).drew) ?_
 simp only [List.take_succ_cons, List.take_zero, List.drop_succ_cons, List.drop_zero]
 refine rel_val (v := .int .i64 n) rfl (fun w' hw => by
  have c := LD w' hw _ _ _ (by omega) H.out.2.2.1
  unfold execOp
  go_simp) ?_
 simp only [Act.put, List.setIfInBounds_toArray, List.set_cons_succ, List.set_cons_zero]
 refine rel_call rfl (f := 17) (args := #[.int .i64 n]) (fun w' hw => by unfold execOp; go_simp) (fun w' hw => (cItE n HN.out.2 w' ((HT.out.below H.out.1).below hw)).mono fun e w2 ⟨⟨s, he, h1, h2⟩, hb⟩ => ⟨_, he, ⟨s, rfl, h1, h2⟩, hw.trans (hb.mono hw.size)⟩) ?_
 rintro v ⟨s, rfl, hs, hz⟩
 simp only [Act.put, List.setIfInBounds_toArray, List.set_cons_succ, List.set_cons_zero]
 refine rel_val (v := .string (⟨#[115, 116, 101, 112, 115, 40]⟩ ++ s)) rfl (fun w' hw => by unfold execOp; go_simp; omega) ?_
 simp only [Act.put, List.setIfInBounds_toArray, List.set_cons_succ, List.set_cons_zero]
 refine rel_val (v := .string (⟨#[115, 116, 101, 112, 115, 40]⟩ ++ s ++ ⟨#[44, 32]⟩)) rfl (fun w' hw => by unfold execOp; go_simp; omega) ?_
 simp only [Act.put, List.setIfInBounds_toArray, List.set_cons_succ, List.set_cons_zero]
 refine rel_move (v := .slice (some ⟨w.heap.size + 1 + 1, 0, none⟩) 5 5) rfl rfl ?_
 simp only [Act.put, List.setIfInBounds_toArray, List.set_cons_succ, List.set_cons_zero]
 refine rel_val (v := .int .i64 2) rfl (fun w' hw => by
  have c := LD w' hw _ _ _ (by omega) H.out.2.2.2.1
  unfold execOp
  go_simp) ?_
 simp only [Act.put, List.setIfInBounds_toArray, List.set_cons_succ, List.set_cons_zero]
 refine rel_val (v := .pointer (some ⟨w.heap.size + 1 + 1, 2, none⟩)) rfl (fun w' hw => by unfold execOp; go_simp) ?_
 simp only [Act.put, List.setIfInBounds_toArray, List.set_cons_succ, List.set_cons_zero]
 refine rel_val (v := .string ⟨#[106, 117, 109, 112, 45, 101, 110, 100]⟩) rfl (fun w' hw => by
  have c := LD w' hw _ _ _ (by omega) (H.out.2.2.2.2.1 2 (.string ⟨#[106, 117, 109, 112, 45, 101, 110, 100]⟩) rfl)
  unfold execOp
  go_simp) ?_
 simp only [Act.put, List.setIfInBounds_toArray, List.set_cons_succ, List.set_cons_zero]
 refine rel_val (v := .string (⟨#[115, 116, 101, 112, 115, 40]⟩ ++ s ++ ⟨#[44, 32]⟩ ++ ⟨#[106, 117, 109, 112, 45, 101, 110, 100]⟩)) rfl (fun w' hw => by unfold execOp; go_simp; omega) ?_
 simp only [Act.put, List.setIfInBounds_toArray, List.set_cons_succ, List.set_cons_zero]
 refine rel_val (v := .string (⟨#[115, 116, 101, 112, 115, 40]⟩ ++ s ++ ⟨#[44, 32]⟩ ++ ⟨#[106, 117, 109, 112, 45, 101, 110, 100]⟩ ++ ⟨#[41]⟩)) rfl (fun w' hw => by unfold execOp; go_simp; omega) ?_
 simp only [Act.put, List.setIfInBounds_toArray, List.set_cons_succ, List.set_cons_zero]
 refine rel_assign (v := .string (⟨#[115, 116, 101, 112, 115, 40]⟩ ++ s ++ ⟨#[44, 32]⟩ ++ ⟨#[106, 117, 109, 112, 45, 101, 110, 100]⟩ ++ ⟨#[41]⟩)) rfl rfl ?_
 simp only [Act.put, List.setIfInBounds_toArray, List.set_cons_succ, List.set_cons_zero]
 refine rel_nil ?_
 intro w' hw
 have TX : Hid (bl (⟨#[115, 116, 101, 112, 115, 40]⟩ ++ s ++ ⟨#[44, 32]⟩ ++ ⟨#[106, 117, 109, 112, 45, 101, 110, 100]⟩ ++ ⟨#[41]⟩) = textE (.steps n 2)) := Lib.hid (by rw [bl_append, bl_append, bl_append, bl_append, hs, bl_steps, bl_comma, bl_close, bl_j2]; exact tx_steps n 2)
 have F : Hid (FnAt w' (.steps n 2) (.func (.func 80) #[] #[ptr w.heap.size, ptr (w.heap.size + 1), ptr (w.heap.size + 1 + 1 + 1)])) := Lib.hid (by
  have hz2 := hw.size
  have hz3 := H.out.2.1
  exact ⟨HN.out.1, HN.out.2, by decide, by decide, _, _, _, m, rfl, by omega, by omega, by omega, LD w' hw _ _ _ (by omega) H.out.2.2.1, LD w' hw _ _ _ (by omega) H.out.2.2.2.1, LD w' hw _ _ _ (by omega) H.out.2.2.2.2.2, HMM.out⟩)
 have HB := Lib.hid (H.out.1.trans (hw.mono H.out.1.size))
 obtain ⟨tx, htx⟩ : ∃ tx, tx = ⟨#[115, 116, 101, 112, 115, 40]⟩ ++ s ++ ⟨#[44, 32]⟩ ++ ⟨#[106, 117, 109, 112, 45, 101, 110, 100]⟩ ++ ⟨#[41]⟩ := ⟨_, rfl⟩
 rw [← htx] at TX ⊢
 clear hs hz htx LD hw
 go_wp2
 go_ret
 exact ⟨w'.heap.size, rfl, HB.out.size, ⟨by simp, tx, _, by simp [go_sem], TX.out, by simp [go_sem], F.out.below (B := 0) ((Below.refl _ w').alloc (Nat.le_refl _) _)⟩, HB.out.alloc HB.out.size _⟩
set_option maxRecDepth 100000 in
set_option maxHeartbeats 1000000 in
theorem k40_3 (n : Nat) (w : World) (hn : 1 ≤ n) (hn2 : n ≤ 999999999) (ht : PowTab w) : Calls Tryz.prog 40 #[.int .i64 n, .int .i64 3] w fun e w' => ∃ b, e = .returned (ptr b) ∧ w.heap.size ≤ b ∧ EzAt w' b (.steps n 3) ∧ Below w.heap.size w w' := by
 obtain ⟨W3, hW3⟩ : ∃ W3, W3 = (((w.alloc (Obj.cells #[Value.int IntKind.i64 n] 3)).alloc (Obj.cells #[Value.int IntKind.i64 3] 93)).alloc (Obj.cells strs5 9)) := ⟨_, rfl⟩
 have s3 : W3.heap.size = w.heap.size + 1 + 1 + 1 := by rw [hW3]; simp
 have st1 : (store ⟨w.heap.size + 1 + 1 + 1, 0, none⟩ (.float .f64 (fz n))).run Tryz.prog (W3.alloc (Obj.cells #[Value.float FloatKind.f64 0] 31)) = .ok () ((W3.alloc (Obj.cells #[Value.float FloatKind.f64 0] 31)).setCell ⟨w.heap.size + 1 + 1 + 1, 0, none⟩ (.float .f64 (fz n))) := store_f _ (by rw [← s3]; simp [go_sem]) (by rw [← s3]; simp [go_sem])
 have hfz : floatOfInt .f64 (n : Int) = fz n := rfl
 have HN := Lib.hid (And.intro hn hn2)
 have HT := Lib.hid ht
 have HW := Lib.hid (show SM w n 3 (fz n) (W3.alloc (Obj.cells #[Value.float FloatKind.f64 (fz n)] 31)) by rw [hW3]; exact sm_four w n 3 (fz n))
 have har := fun s w => run_fop (P := Tryz.prog) .sub rfl 31 s 4607182418800017408 w
 have st2 : ∀ k x, (store ⟨w.heap.size + 1 + 1 + 1, 0, none⟩ (.float .f64 x)).run Tryz.prog ((W3.alloc (Obj.cells #[Value.float FloatKind.f64 (fz n)] 31)).drewN k) = .ok () (((W3.alloc (Obj.cells #[Value.float FloatKind.f64 (fz n)] 31)).drewN k).setCell ⟨w.heap.size + 1 + 1 + 1, 0, none⟩ (.float .f64 x)) := fun k x => store_f _ (by rw [← s3]; simp [go_sem]) (by rw [← s3]; simp [go_sem])
 rw [hW3] at st1 st2 HW
 clear hn hn2 ht hW3 s3
 unfold strs5 at st1 st2 HW
 go_enter Tryz.func40, Tryz.ntmps40
 go_upto_region 8 with fail
 refine wp_genY (fun wx => ∃ m, RV m (mP n 3) ∧ SM w n 3 m wx) ⟨_, (by rw [mP_3]; exact RV.fop .sub (fz_RV n) one_RV _), (HW.out.drewN _).set _⟩ ?_
 rintro wx ⟨m, hm, SMx⟩
 have H := Lib.hid SMx
 have HMM := Lib.hid hm
 clear st1 har st2 HW SMx hm
 have LD : ∀ w', Below wx.heap.size wx w' → ∀ b o v, b < w.heap.size + 4 → wx.cell? ⟨b, o, none⟩ = some v → w'.cell? ⟨b, o, none⟩ = some v := fun w' hb b o v hlt hc => (hb.cell (p := ⟨b, o, none⟩) (Nat.lt_of_lt_of_le hlt H.out.2.1)).trans hc
 refine wp_region_rel 11 (fun w' => Below wx.heap.size wx w') (fun _ _ v => ∃ s : ByteArray, v = .string s ∧ bl s = dgs n ∧ s.size ≤ 9) (by kernel_rfl) (by kernel_rfl) ((Below.refl _ _).drew) ?_
 simp only [List.take_succ_cons, List.take_zero, List.drop_succ_cons, List.drop_zero]
 refine rel_val (v := .int .i64 n) rfl (fun w' hw => by
  have c := LD w' hw _ _ _ (by omega) H.out.2.2.1
  unfold execOp
  go_simp) ?_
 simp only [Act.put, List.setIfInBounds_toArray, List.set_cons_succ, List.set_cons_zero]
 refine rel_call rfl (f := 17) (args := #[.int .i64 n]) (fun w' hw => by unfold execOp; go_simp) (fun w' hw => (cItE n HN.out.2 w' ((HT.out.below H.out.1).below hw)).mono fun e w2 ⟨⟨s, he, h1, h2⟩, hb⟩ => ⟨_, he, ⟨s, rfl, h1, h2⟩, hw.trans (hb.mono hw.size)⟩) ?_
 rintro v ⟨s, rfl, hs, hz⟩
 simp only [Act.put, List.setIfInBounds_toArray, List.set_cons_succ, List.set_cons_zero]
 refine rel_val (v := .string (⟨#[115, 116, 101, 112, 115, 40]⟩ ++ s)) rfl (fun w' hw => by unfold execOp; go_simp; omega) ?_
 simp only [Act.put, List.setIfInBounds_toArray, List.set_cons_succ, List.set_cons_zero]
 refine rel_val (v := .string (⟨#[115, 116, 101, 112, 115, 40]⟩ ++ s ++ ⟨#[44, 32]⟩)) rfl (fun w' hw => by unfold execOp; go_simp; omega) ?_
 simp only [Act.put, List.setIfInBounds_toArray, List.set_cons_succ, List.set_cons_zero]
 refine rel_move (v := .slice (some ⟨w.heap.size + 1 + 1, 0, none⟩) 5 5) rfl rfl ?_
 simp only [Act.put, List.setIfInBounds_toArray, List.set_cons_succ, List.set_cons_zero]
 refine rel_val (v := .int .i64 3) rfl (fun w' hw => by
  have c := LD w' hw _ _ _ (by omega) H.out.2.2.2.1
  unfold execOp
  go_simp) ?_
 simp only [Act.put, List.setIfInBounds_toArray, List.set_cons_succ, List.set_cons_zero]
 refine rel_val (v := .pointer (some ⟨w.heap.size + 1 + 1, 3, none⟩)) rfl (fun w' hw => by unfold execOp; go_simp) ?_
 simp only [Act.put, List.setIfInBounds_toArray, List.set_cons_succ, List.set_cons_zero]
 refine rel_val (v := .string ⟨#[106, 117, 109, 112, 45, 110, 111, 110, 101]⟩) rfl (fun w' hw => by
  have c := LD w' hw _ _ _ (by omega) (H.out.2.2.2.2.1 3 (.string ⟨#[106, 117, 109, 112, 45, 110, 111, 110, 101]⟩) rfl)
  unfold execOp
  go_simp) ?_
 simp only [Act.put, List.setIfInBounds_toArray, List.set_cons_succ, List.set_cons_zero]
 refine rel_val (v := .string (⟨#[115, 116, 101, 112, 115, 40]⟩ ++ s ++ ⟨#[44, 32]⟩ ++ ⟨#[106, 117, 109, 112, 45, 110, 111, 110, 101]⟩)) rfl (fun w' hw => by unfold execOp; go_simp; omega) ?_
 simp only [Act.put, List.setIfInBounds_toArray, List.set_cons_succ, List.set_cons_zero]
 refine rel_val (v := .string (⟨#[115, 116, 101, 112, 115, 40]⟩ ++ s ++ ⟨#[44, 32]⟩ ++ ⟨#[106, 117, 109, 112, 45, 110, 111, 110, 101]⟩ ++ ⟨#[41]⟩)) rfl (fun w' hw => by unfold execOp; go_simp; omega) ?_
 simp only [Act.put, List.setIfInBounds_toArray, List.set_cons_succ, List.set_cons_zero]
 refine rel_assign (v := .string (⟨#[115, 116, 101, 112, 115, 40]⟩ ++ s ++ ⟨#[44, 32]⟩ ++ ⟨#[106, 117, 109, 112, 45, 110, 111, 110, 101]⟩ ++ ⟨#[41]⟩)) rfl rfl ?_
 simp only [Act.put, List.setIfInBounds_toArray, List.set_cons_succ, List.set_cons_zero]
 refine rel_nil ?_
 intro w' hw
 have TX : Hid (bl (⟨#[115, 116, 101, 112, 115, 40]⟩ ++ s ++ ⟨#[44, 32]⟩ ++ ⟨#[106, 117, 109, 112, 45, 110, 111, 110, 101]⟩ ++ ⟨#[41]⟩) = textE (.steps n 3)) := Lib.hid (by rw [bl_append, bl_append, bl_append, bl_append, hs, bl_steps, bl_comma, bl_close, bl_j3]; exact tx_steps n 3)
 have F : Hid (FnAt w' (.steps n 3) (.func (.func 80) #[] #[ptr w.heap.size, ptr (w.heap.size + 1), ptr (w.heap.size + 1 + 1 + 1)])) := Lib.hid (by
  have hz2 := hw.size
  have hz3 := H.out.2.1
  exact ⟨HN.out.1, HN.out.2, by decide, by decide, _, _, _, m, rfl, by omega, by omega, by omega, LD w' hw _ _ _ (by omega) H.out.2.2.1, LD w' hw _ _ _ (by omega) H.out.2.2.2.1, LD w' hw _ _ _ (by omega) H.out.2.2.2.2.2, HMM.out⟩)
 have HB := Lib.hid (H.out.1.trans (hw.mono H.out.1.size))
 obtain ⟨tx, htx⟩ : ∃ tx, tx = ⟨#[115, 116, 101, 112, 115, 40]⟩ ++ s ++ ⟨#[44, 32]⟩ ++ ⟨#[106, 117, 109, 112, 45, 110, 111, 110, 101]⟩ ++ ⟨#[41]⟩ := ⟨_, rfl⟩
 rw [← htx] at TX ⊢
 clear hs hz htx LD hw
 go_wp2
 go_ret
 exact ⟨w'.heap.size, rfl, HB.out.size, ⟨by simp, tx, _, by simp [go_sem], TX.out, by simp [go_sem], F.out.below (B := 0) ((Below.refl _ w').alloc (Nat.le_refl _) _)⟩, HB.out.alloc HB.out.size _⟩
set_option maxRecDepth 100000 in
set_option maxHeartbeats 1000000 in
theorem k40_4 (n : Nat) (w : World) (hn : 1 ≤ n) (hn2 : n ≤ 999999999) (ht : PowTab w) : Calls Tryz.prog 40 #[.int .i64 n, .int .i64 4] w fun e w' => ∃ b, e = .returned (ptr b) ∧ w.heap.size ≤ b ∧ EzAt w' b (.steps n 4) ∧ Below w.heap.size w w' := by
 obtain ⟨W3, hW3⟩ : ∃ W3, W3 = (((w.alloc (Obj.cells #[Value.int IntKind.i64 n] 3)).alloc (Obj.cells #[Value.int IntKind.i64 4] 93)).alloc (Obj.cells strs5 9)) := ⟨_, rfl⟩
 have s3 : W3.heap.size = w.heap.size + 1 + 1 + 1 := by rw [hW3]; simp
 have st1 : (store ⟨w.heap.size + 1 + 1 + 1, 0, none⟩ (.float .f64 (fz n))).run Tryz.prog (W3.alloc (Obj.cells #[Value.float FloatKind.f64 0] 31)) = .ok () ((W3.alloc (Obj.cells #[Value.float FloatKind.f64 0] 31)).setCell ⟨w.heap.size + 1 + 1 + 1, 0, none⟩ (.float .f64 (fz n))) := store_f _ (by rw [← s3]; simp [go_sem]) (by rw [← s3]; simp [go_sem])
 have hfz : floatOfInt .f64 (n : Int) = fz n := rfl
 have HN := Lib.hid (And.intro hn hn2)
 have HT := Lib.hid ht
 have HW := Lib.hid (show SM w n 4 (fz n) (W3.alloc (Obj.cells #[Value.float FloatKind.f64 (fz n)] 31)) by rw [hW3]; exact sm_four w n 4 (fz n))
 have har := fun s w => run_fop (P := Tryz.prog) .add rfl 31 s 4607182418800017408 w
 have st2 : ∀ k x, (store ⟨w.heap.size + 1 + 1 + 1, 0, none⟩ (.float .f64 x)).run Tryz.prog ((W3.alloc (Obj.cells #[Value.float FloatKind.f64 (fz n)] 31)).drewN k) = .ok () (((W3.alloc (Obj.cells #[Value.float FloatKind.f64 (fz n)] 31)).drewN k).setCell ⟨w.heap.size + 1 + 1 + 1, 0, none⟩ (.float .f64 x)) := fun k x => store_f _ (by rw [← s3]; simp [go_sem]) (by rw [← s3]; simp [go_sem])
 rw [hW3] at st1 st2 HW
 clear hn hn2 ht hW3 s3
 unfold strs5 at st1 st2 HW
 go_enter Tryz.func40, Tryz.ntmps40
 go_upto_region 8 with fail
 refine wp_genY (fun wx => ∃ m, RV m (mP n 4) ∧ SM w n 4 m wx) ⟨_, (by rw [mP_4]; exact RV.fop .add (fz_RV n) one_RV _), (HW.out.drewN _).set _⟩ ?_
 rintro wx ⟨m, hm, SMx⟩
 have H := Lib.hid SMx
 have HMM := Lib.hid hm
 clear st1 har st2 HW SMx hm
 have LD : ∀ w', Below wx.heap.size wx w' → ∀ b o v, b < w.heap.size + 4 → wx.cell? ⟨b, o, none⟩ = some v → w'.cell? ⟨b, o, none⟩ = some v := fun w' hb b o v hlt hc => (hb.cell (p := ⟨b, o, none⟩) (Nat.lt_of_lt_of_le hlt H.out.2.1)).trans hc
 refine wp_region_rel 11 (fun w' => Below wx.heap.size wx w') (fun _ _ v => ∃ s : ByteArray, v = .string s ∧ bl s = dgs n ∧ s.size ≤ 9) (by kernel_rfl) (by kernel_rfl) ((Below.refl _ _).drew) ?_
 simp only [List.take_succ_cons, List.take_zero, List.drop_succ_cons, List.drop_zero]
 refine rel_val (v := .int .i64 n) rfl (fun w' hw => by
  have c := LD w' hw _ _ _ (by omega) H.out.2.2.1
  unfold execOp
  go_simp) ?_
 simp only [Act.put, List.setIfInBounds_toArray, List.set_cons_succ, List.set_cons_zero]
 refine rel_call rfl (f := 17) (args := #[.int .i64 n]) (fun w' hw => by unfold execOp; go_simp) (fun w' hw => (cItE n HN.out.2 w' ((HT.out.below H.out.1).below hw)).mono fun e w2 ⟨⟨s, he, h1, h2⟩, hb⟩ => ⟨_, he, ⟨s, rfl, h1, h2⟩, hw.trans (hb.mono hw.size)⟩) ?_
 rintro v ⟨s, rfl, hs, hz⟩
 simp only [Act.put, List.setIfInBounds_toArray, List.set_cons_succ, List.set_cons_zero]
 refine rel_val (v := .string (⟨#[115, 116, 101, 112, 115, 40]⟩ ++ s)) rfl (fun w' hw => by unfold execOp; go_simp; omega) ?_
 simp only [Act.put, List.setIfInBounds_toArray, List.set_cons_succ, List.set_cons_zero]
 refine rel_val (v := .string (⟨#[115, 116, 101, 112, 115, 40]⟩ ++ s ++ ⟨#[44, 32]⟩)) rfl (fun w' hw => by unfold execOp; go_simp; omega) ?_
 simp only [Act.put, List.setIfInBounds_toArray, List.set_cons_succ, List.set_cons_zero]
 refine rel_move (v := .slice (some ⟨w.heap.size + 1 + 1, 0, none⟩) 5 5) rfl rfl ?_
 simp only [Act.put, List.setIfInBounds_toArray, List.set_cons_succ, List.set_cons_zero]
 refine rel_val (v := .int .i64 4) rfl (fun w' hw => by
  have c := LD w' hw _ _ _ (by omega) H.out.2.2.2.1
  unfold execOp
  go_simp) ?_
 simp only [Act.put, List.setIfInBounds_toArray, List.set_cons_succ, List.set_cons_zero]
 refine rel_val (v := .pointer (some ⟨w.heap.size + 1 + 1, 4, none⟩)) rfl (fun w' hw => by unfold execOp; go_simp) ?_
 simp only [Act.put, List.setIfInBounds_toArray, List.set_cons_succ, List.set_cons_zero]
 refine rel_val (v := .string ⟨#[106, 117, 109, 112, 45, 98, 111, 116, 104]⟩) rfl (fun w' hw => by
  have c := LD w' hw _ _ _ (by omega) (H.out.2.2.2.2.1 4 (.string ⟨#[106, 117, 109, 112, 45, 98, 111, 116, 104]⟩) rfl)
  unfold execOp
  go_simp) ?_
 simp only [Act.put, List.setIfInBounds_toArray, List.set_cons_succ, List.set_cons_zero]
 refine rel_val (v := .string (⟨#[115, 116, 101, 112, 115, 40]⟩ ++ s ++ ⟨#[44, 32]⟩ ++ ⟨#[106, 117, 109, 112, 45, 98, 111, 116, 104]⟩)) rfl (fun w' hw => by unfold execOp; go_simp; omega) ?_
 simp only [Act.put, List.setIfInBounds_toArray, List.set_cons_succ, List.set_cons_zero]
 refine rel_val (v := .string (⟨#[115, 116, 101, 112, 115, 40]⟩ ++ s ++ ⟨#[44, 32]⟩ ++ ⟨#[106, 117, 109, 112, 45, 98, 111, 116, 104]⟩ ++ ⟨#[41]⟩)) rfl (fun w' hw => by unfold execOp; go_simp; omega) ?_
 simp only [Act.put, List.setIfInBounds_toArray, List.set_cons_succ, List.set_cons_zero]
 refine rel_assign (v := .string (⟨#[115, 116, 101, 112, 115, 40]⟩ ++ s ++ ⟨#[44, 32]⟩ ++ ⟨#[106, 117, 109, 112, 45, 98, 111, 116, 104]⟩ ++ ⟨#[41]⟩)) rfl rfl ?_
 simp only [Act.put, List.setIfInBounds_toArray, List.set_cons_succ, List.set_cons_zero]
 refine rel_nil ?_
 intro w' hw
 have TX : Hid (bl (⟨#[115, 116, 101, 112, 115, 40]⟩ ++ s ++ ⟨#[44, 32]⟩ ++ ⟨#[106, 117, 109, 112, 45, 98, 111, 116, 104]⟩ ++ ⟨#[41]⟩) = textE (.steps n 4)) := Lib.hid (by rw [bl_append, bl_append, bl_append, bl_append, hs, bl_steps, bl_comma, bl_close, bl_j4]; exact tx_steps n 4)
 have F : Hid (FnAt w' (.steps n 4) (.func (.func 80) #[] #[ptr w.heap.size, ptr (w.heap.size + 1), ptr (w.heap.size + 1 + 1 + 1)])) := Lib.hid (by
  have hz2 := hw.size
  have hz3 := H.out.2.1
  exact ⟨HN.out.1, HN.out.2, by decide, by decide, _, _, _, m, rfl, by omega, by omega, by omega, LD w' hw _ _ _ (by omega) H.out.2.2.1, LD w' hw _ _ _ (by omega) H.out.2.2.2.1, LD w' hw _ _ _ (by omega) H.out.2.2.2.2.2, HMM.out⟩)
 have HB := Lib.hid (H.out.1.trans (hw.mono H.out.1.size))
 obtain ⟨tx, htx⟩ : ∃ tx, tx = ⟨#[115, 116, 101, 112, 115, 40]⟩ ++ s ++ ⟨#[44, 32]⟩ ++ ⟨#[106, 117, 109, 112, 45, 98, 111, 116, 104]⟩ ++ ⟨#[41]⟩ := ⟨_, rfl⟩
 rw [← htx] at TX ⊢
 clear hs hz htx LD hw
 go_wp2
 go_ret
 exact ⟨w'.heap.size, rfl, HB.out.size, ⟨by simp, tx, _, by simp [go_sem], TX.out, by simp [go_sem], F.out.below (B := 0) ((Below.refl _ w').alloc (Nat.le_refl _) _)⟩, HB.out.alloc HB.out.size _⟩
theorem k40 (n j : Nat) (w : World) (hn : 1 ≤ n) (hn2 : n ≤ 999999999) (hj : 1 ≤ j) (hj2 : j ≤ 4) (ht : PowTab w) : Calls Tryz.prog 40 #[.int .i64 n, .int .i64 j] w fun e w' => ∃ b, e = .returned (ptr b) ∧ w.heap.size ≤ b ∧ EzAt w' b (.steps n j) ∧ Below w.heap.size w w' := by
 have : j = 1 ∨ j = 2 ∨ j = 3 ∨ j = 4 := by omega
 rcases this with rfl | rfl | rfl | rfl
 ·exact k40_1 n w hn hn2 ht
 ·exact k40_2 n w hn hn2 ht
 ·exact k40_3 n w hn hn2 ht
 ·exact k40_4 n w hn hn2 ht
end Go.Proofs.YtlgencbldbpbdaaGreatDoor
