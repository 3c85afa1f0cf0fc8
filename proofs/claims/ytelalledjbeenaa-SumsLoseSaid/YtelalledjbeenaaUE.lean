/- Rows of seventy words by value: which of two is greater. -/
import Derived.Test.YtelalledjbeenaaUD
namespace Go.Proofs.Ytelalledjbeenaa
open Go.RowKit Fl

/-- the words of a number, as a value -/
def UL (n : Nat) : List Value := (List.range 70).map fun i => .int .u32 ((dg n i : Nat) : Int)
theorem UL_len (n : Nat) : (UL n).length = 70 := by simp [UL]
theorem UL_get (n i : Nat) (h : i < 70) : (UL n)[i]? = some (.int .u32 ((dg n i : Nat) : Int)) := by simp [UL, h]
theorem size108 : (Try.prog.info? 108).map (·.size) = some 70 := by kernel_rfl
theorem UL_one (n : Nat) : (UL n).toArray.all (·.oneCell') = true := all_oneCell_toArray (fun v hv => by
  unfold UL at hv
  obtain ⟨i, _, rfl⟩ := List.mem_map.1 hv
  rfl)
theorem urow_new (w : World) (n : Nat) (t : TypeId) : URow (w.alloc (.cells (UL n).toArray t)) w.heap.size 0 (dg n) := fun j hj => by
  refine ⟨?_, by simp [go_sem]⟩
  rw [Nat.zero_add, World.cell?_alloc_new w (UL n).toArray t j, List.getElem?_toArray]
  exact UL_get n j hj
theorem URow.range {w : World} {b o n : Nat} (h : URow w b o (dg n)) : w.rangeAt b o (UL n) := fun j v hv => by
  have hj : j < 70 := by have := (List.getElem?_eq_some_iff.1 hv).1; rw [UL_len] at this; exact this
  rw [UL_get n j hj] at hv
  cases hv
  exact (h j hj).1
def RC : Nat := 70
theorem RC_eq : RC = 70 := rfl
/-- how two numbers stand -/
def cmpN (a b : Nat) : Int := if b < a then 1 else if a < b then -1 else 0
set_option maxRecDepth 100000 in
set_option maxHeartbeats 4000000 in
theorem c167 (a b : Nat) (w : World) (ha : a < 2 ^ (32 * RC)) (hb : b < 2 ^ (32 * RC)) : Calls Try.prog 167 #[.agg (UL a).toArray, .agg (UL b).toArray] w fun e w' => e = .returned (.int .i64 (cmpN a b)) ∧ Below w.heap.size w w' := by
  have R0 := Lib.hid (show URow ((w.alloc (.cells (UL a).toArray 108)).alloc (.cells (UL b).toArray 108)) w.heap.size 0 (dg a) from (urow_new w a 108).below ((Below.refl (w.alloc (.cells (UL a).toArray 108)).heap.size _).alloc (Nat.le_refl _) _) (by simp))
  have R1 := Lib.hid (show URow ((w.alloc (.cells (UL a).toArray 108)).alloc (.cells (UL b).toArray 108)) (w.heap.size + 1) 0 (dg b) by
    have := urow_new (w.alloc (.cells (UL a).toArray 108)) b 108
    rwa [World.size_alloc] at this)
  have B0 := Lib.hid (show Below w.heap.size w ((w.alloc (.cells (UL a).toArray 108)).alloc (.cells (UL b).toArray 108)) from ((Below.refl _ _).alloc (Nat.le_refl _) _).alloc (by simp) _)
  have HT := Lib.hid (show a / 2 ^ (32 * RC) = b / 2 ^ (32 * RC) by rw [Nat.div_eq_of_lt ha, Nat.div_eq_of_lt hb])
  clear ha hb
  go_enter Try.func167, Try.ntmps167
  go_wp2_with fail
  go_loopw [5] (fun ii wx => ∃ i : Nat, ii = .int .i64 ((i : Int) - 1) ∧ Hid (i ≤ 70) ∧ Hid (a / 2 ^ (32 * i) = b / 2 ^ (32 * i)) ∧ Hid (URow wx w.heap.size 0 (dg a) ∧ URow wx (w.heap.size + 1) 0 (dg b) ∧ Below w.heap.size w wx)) (fun ii _ => (intOf ii + 1).toNat)
  case atStart => exact ⟨RC, rfl, Lib.hid (by rw [RC_eq]; omega), HT, Lib.hid ⟨R0.out, R1.out, B0.out⟩⟩
  case round =>
    obtain ⟨i, rfl, hi, hT, hI⟩ := hrel
    clear R0 R1 B0
    rcases Nat.eq_zero_or_pos i with h0 | h0
    · subst h0
      have e : cmpN a b = 0 := by have := top_all a b hT.out; subst this; unfold cmpN; simp
      have E := Lib.hid e
      clear e
      rw [show (((0 : Nat) : Int) - 1) = -1 from rfl]
      go_wp2_with fail
      go_ret
      exact ⟨by rw [E.out]; rfl, hI.out.2.2⟩
    · obtain ⟨t, rfl⟩ : ∃ t, i = t + 1 := ⟨i - 1, by omega⟩
      have ht : t < 70 := by have := hi.out; omega
      have ej : ((t + 1 : Nat) : Int) - 1 = (t : Int) := by omega
      rw [ej]
      clear ej
      have T := top_step a b t hT.out
      have c0 := (hI.out.1 t ht).1
      have c1 := (hI.out.2.1 t ht).1
      rw [Nat.zero_add] at c0 c1
      have t0 : (0 : Int) ≤ (t : Int) := by omega
      have t70 : (t : Int) < 70 := by omega
      have HTT := Lib.hid ht
      rcases Nat.lt_trichotomy (dg b t) (dg a t) with c | c | c
      · have E := Lib.hid (show cmpN a b = 1 by unfold cmpN; rw [if_pos (T.1 c)])
        have q : decide (dg b t < dg a t) = true := decide_eq_true c
        have q2 : decide (dg a t < dg b t) = false := decide_eq_false (by omega)
        clear T c ht
        go_wp2_with fail
        go_quiet (fail)
        go_wp2_with fail
        go_ret
        exact ⟨by rw [E.out]; rfl, by first | exact Bd hI.out.2.2 _ | exact Bd (Bd hI.out.2.2 _) _⟩
      · have TT := Lib.hid (T.2.2 c.symm)
        have q : decide (dg b t < dg a t) = false := decide_eq_false (by omega)
        have q2 : decide (dg a t < dg b t) = false := decide_eq_false (by omega)
        clear T c ht
        go_wp2_with fail
        go_quiet (fail)
        go_wp2_with fail
        go_quiet (fail)
        go_wp2_with fail
        go_roundw
        case rel => exact ⟨t, rfl, Lib.hid (by have := HTT.out; omega), TT, Lib.hid ⟨fun j hj => hI.out.1 j hj, fun j hj => hI.out.2.1 j hj, by first | exact Bd hI.out.2.2 _ | exact Bd (Bd hI.out.2.2 _) _⟩⟩
        case measure => simp [intOf]
      · have E := Lib.hid (show cmpN a b = -1 by unfold cmpN; rw [if_neg (by have := T.2.1 c; omega), if_pos (T.2.1 c)])
        have q : decide (dg b t < dg a t) = false := decide_eq_false (by omega)
        have q2 : decide (dg a t < dg b t) = true := decide_eq_true c
        clear T c ht
        go_wp2_with fail
        go_quiet (fail)
        go_wp2_with fail
        go_quiet (fail)
        go_wp2_with fail
        go_ret
        exact ⟨by rw [E.out]; rfl, by first | exact Bd hI.out.2.2 _ | exact Bd (Bd hI.out.2.2 _) _⟩
end Go.Proofs.Ytelalledjbeenaa
