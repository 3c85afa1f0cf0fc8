/- Join, both: the place of the number that it makes. -/
import Derived.Test.YtelalledjbeenaaJoin
namespace Go.Proofs.Ytelalledjbeenaa
open Go.RowKit Fl

def joinP (neg : Bool) (c : Int) (m : Nat) (e : Int) : Int :=
  if c = 4 then 9223372036854775807 else if c = 3 then pl (word neg 9218868437227405312) else if c = 0 then pl (word neg 0) else pl (nearW neg m e)
theorem joinP4 (neg : Bool) (m : Nat) (e : Int) : joinP neg 4 m e = 9223372036854775807 := by unfold joinP; rw [if_pos rfl]
theorem joinP3 (neg : Bool) (m : Nat) (e : Int) : joinP neg 3 m e = pl (word neg 9218868437227405312) := by unfold joinP; rw [if_neg (by decide), if_pos rfl]
theorem joinP0 (neg : Bool) (m : Nat) (e : Int) : joinP neg 0 m e = pl (word neg 0) := by unfold joinP; rw [if_neg (by decide), if_neg (by decide), if_pos rfl]
theorem Bd {B : Nat} {a w : World} (h : Below B a w) (n : Nat) : Below B a (w.drewN n) := ⟨h.os, h.tape, h.output, h.size, h.block⟩
theorem U_nearW (neg : Bool) (m : Nat) (e : Int) : U (nearW neg m e) := by
  refine U_word _ _ ?_
  have : min (near m e) INF ≤ INF := Nat.min_le_right _ _
  unfold INF at *; omega

set_option maxRecDepth 100000 in
set_option maxHeartbeats 400000 in
theorem c34 (neg : Bool) (c : Int) (m : Nat) (e : Int) (w : World) (h : U m) :
    Calls Try.prog 34 #[.agg #[.bool neg, .int .i64 c, .int .u64 m, .int .i64 e]] w fun x w' => RetF (joinP neg c m e) x ∧ Below w.heap.size w w' := by
  have B1 : ∀ (w : World) (o : Obj), Below w.heap.size w (w.alloc o) := fun w o => (Below.refl _ _).alloc (Nat.le_refl _) _
  by_cases c4 : c = 4
  · subst c4
    go_enter Try.func34, Try.ntmps34
    go_wp2_with (go_at_call 139; refine (c139 _).mono ?_; rintro e w' ⟨rfl, rfl⟩)
    go_ret
    exact ⟨retF U_QR (by rw [pl_QR, joinP4]), B1 _ _⟩
  have d4 : (c == 4) = false := by simp; omega
  by_cases c3 : c = 3
  · subst c3
    go_enter Try.func34, Try.ntmps34
    go_wp2_with (go_at_call 140; refine (c140 9218868437227405312 _ _ (by decide)).mono ?_; rintro e w' ⟨rfl, rfl⟩)
    go_ret
    exact ⟨retF (U_word _ _ (by decide)) (joinP3 _ _ _).symm, B1 _ _⟩
  have d3 : (c == 3) = false := by simp; omega
  by_cases c0 : c = 0
  · subst c0
    go_enter Try.func34, Try.ntmps34
    go_wp2_with (go_at_call 140; refine (c140 0 _ _ (by decide)).mono ?_; rintro e w' ⟨rfl, rfl⟩)
    go_ret
    exact ⟨retF (U_word _ _ (by decide)) (joinP0 _ _ _).symm, B1 _ _⟩
  have d0 : (c == 0) = false := by simp; omega
  have H : Hid (pl (nearW neg m e) = joinP neg c m e) := by
    have : joinP neg c m e = pl (nearW neg m e) := by unfold joinP; rw [if_neg c4, if_neg c3, if_neg c0]
    exact Lib.hid this.symm
  clear c4 c3 c0
  go_enter Try.func34, Try.ntmps34
  go_wp2_with (go_at_call 141; refine (c141 _ _ _ _ (by assumption)).mono ?_; rintro e w' ⟨rfl, rfl⟩)
  go_ret
  exact ⟨retF (U_nearW _ _ _) H.out, B1 _ _⟩

theorem q137 (w : World) (n : Nat) : Calls Try.prog 137 #[.int .i64 1] (w.drewN n) fun e w' => e = .returned (.float .f64 9218868437227405312) ∧ ∃ m, w' = w.drewN m :=
  Calls.quiet_of_same ((c137p _).mono fun _ _ ⟨a, b⟩ => ⟨a, b.symm⟩)
theorem q136 (r : Nat) (neg : Bool) (w : World) (n : Nat) (h : r < 9223372036854775808) : Calls Try.prog 136 #[.float .f64 r, .bool neg] (w.drewN n) fun e w' => e = .returned (.float .f64 (word neg r)) ∧ ∃ m, w' = w.drewN m :=
  Calls.quiet_of_same ((c136 r neg _ h).mono fun _ _ ⟨a, b⟩ => ⟨a, b.symm⟩)
theorem q138 (m : Nat) (p : Int) (w : World) (n : Nat) (h : U m) : Calls Try.prog 138 #[.int .u64 m, .int .i64 p] (w.drewN n) fun e w' => e = .returned (.float .f64 (min (near m p) INF)) ∧ ∃ m, w' = w.drewN m :=
  Calls.quiet_of_same ((c138 m p _ h).mono fun _ _ ⟨a, b⟩ => ⟨a, b.symm⟩)
theorem min_inf_lt (a : Nat) : min a INF < 9223372036854775808 := by
  have : min a INF ≤ INF := Nat.min_le_right _ _
  unfold INF at *; omega

set_option maxRecDepth 100000 in
set_option maxHeartbeats 400000 in
theorem c33 (neg : Bool) (c : Int) (m : Nat) (e : Int) (w : World) (h : U m) :
    Calls Try.prog 33 #[.agg #[.bool neg, .int .i64 c, .int .u64 m, .int .i64 e]] w fun x w' => RetF (joinP neg c m e) x ∧ Below w.heap.size w w' := by
  have B1 : ∀ (w : World) (o : Obj), Below w.heap.size w (w.alloc o) := fun w o => (Below.refl _ _).alloc (Nat.le_refl _) _
  by_cases c4 : c = 4
  · subst c4
    go_enter Try.func33, Try.ntmps33
    go_wp2_with (go_at_call 135; refine (c135 _).mono ?_; rintro e w' ⟨rfl, rfl⟩)
    go_ret
    exact ⟨retF U_QN (by rw [pl_QN, joinP4]), B1 _ _⟩
  have d4 : (c == 4) = false := by simp; omega
  by_cases c3 : c = 3
  · subst c3
    go_enter Try.func33, Try.ntmps33
    go_wp2_with fail
    go_quiet ((first | (go_at_call 137; exact q137 _ _) | (go_at_call 136; exact q136 _ _ _ _ (by decide))))
    go_wp2
    go_ret
    exact ⟨retF (U_word _ _ (by decide)) (joinP3 _ _ _).symm, Bd (B1 _ _) _⟩
  have d3 : (c == 3) = false := by simp; omega
  by_cases c0 : c = 0
  · subst c0
    go_enter Try.func33, Try.ntmps33
    go_wp2_with (go_at_call 136; refine (c136 0 _ _ (by decide)).mono ?_; rintro e w' ⟨rfl, rfl⟩)
    go_ret
    exact ⟨retF (U_word _ _ (by decide)) (joinP0 _ _ _).symm, B1 _ _⟩
  have d0 : (c == 0) = false := by simp; omega
  have H : Hid (pl (word neg (min (near m e) INF)) = joinP neg c m e) := by
    have : joinP neg c m e = pl (nearW neg m e) := by unfold joinP; rw [if_neg c4, if_neg c3, if_neg c0]
    exact Lib.hid this.symm
  clear c4 c3 c0
  go_enter Try.func33, Try.ntmps33
  go_wp2_with fail
  go_quiet ((first | (go_at_call 138; exact q138 _ _ _ _ h) | (go_at_call 136; exact q136 _ _ _ _ (min_inf_lt _))))
  go_wp2
  go_ret
  exact ⟨retF (U_word _ _ (min_inf_lt _)) H.out, Bd (B1 _ _) _⟩
end Go.Proofs.Ytelalledjbeenaa
