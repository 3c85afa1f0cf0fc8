/- Rows of seventy words by value: which of two is greater. Rows of seventy words by value: the greater less the other. -/
import Derived.Test.YthohhepoddnbnaaGreatDoorMgUB
namespace Go.Proofs.YthohhepoddnbnaaGreatDoor
open Go.RowKit Fl

/-- the words of a number, as a value -/
def UL (n : Nat) : List Value := (List.range 70).map fun i => .int .u32 ((dg n i : Nat) : Int)
theorem UL_len (n : Nat) : (UL n).length = 70 := by simp [UL]
theorem UL_get (n i : Nat) (h : i < 70) : (UL n)[i]? = some (.int .u32 ((dg n i : Nat) : Int)) := by simp [UL, h]
theorem size108 : (Tryz.prog.info? 80).map (·.size) = some 70 := by kernel_rfl
theorem UL_one (n : Nat) : (UL n).toArray.all (·.oneCell') = true := all_oneCell_toArray (fun v hv => by
  unfold UL at hv
  obtain ⟨i, _, rfl⟩ := List.mem_map.1 hv
  rfl)
theorem urow_new (w : World) (n : Nat) (t : TypeId) : URow (w.alloc (.cells (UL n).toArray t)) w.heap.size 0 (dg n) := fun j hj => by
  refine ⟨?_, by simp [go_sem]⟩
  rw [Nat.zero_add, World.cell?_alloc_new w (UL n).toArray t j, List.getElem?_toArray]
  exact UL_get n j hj
theorem URow.range {w : World} {b o n : Nat} (h : URow w b o (dg n)) : w.rangeAt b o (UL n) := fun j v hv => by
  have hj : j < 70 := by have := (List.getElem?_eq_some_iff.1 hv).1; rw [UL_len] at this; exact this
  rw [UL_get n j hj] at hv
  cases hv
  exact (h j hj).1
def RC : Nat := 70
theorem RC_eq : RC = 70 := rfl
/-- how two numbers stand -/
def cmpN (a b : Nat) : Int := if b < a then 1 else if a < b then -1 else 0
set_option maxRecDepth 100000 in
set_option maxHeartbeats 4000000 in
theorem c167 (a b : Nat) (w : World) (ha : a < 2 ^ (32 * RC)) (hb : b < 2 ^ (32 * RC)) : Calls Tryz.prog 51 #[.agg (UL a).toArray, .agg (UL b).toArray] w fun e w' => e = .returned (.int .i64 (cmpN a b)) ∧ Below w.heap.size w w' := by
  have R0 := Lib.hid (show URow ((w.alloc (.cells (UL a).toArray 80)).alloc (.cells (UL b).toArray 80)) w.heap.size 0 (dg a) from (urow_new w a 80).below ((Below.refl (w.alloc (.cells (UL a).toArray 80)).heap.size _).alloc (Nat.le_refl _) _) (by simp))
  have R1 := Lib.hid (show URow ((w.alloc (.cells (UL a).toArray 80)).alloc (.cells (UL b).toArray 80)) (w.heap.size + 1) 0 (dg b) by
    have := urow_new (w.alloc (.cells (UL a).toArray 80)) b 80
    rwa [World.size_alloc] at this)
  have B0 := Lib.hid (show Below w.heap.size w ((w.alloc (.cells (UL a).toArray 80)).alloc (.cells (UL b).toArray 80)) from ((Below.refl _ _).alloc (Nat.le_refl _) _).alloc (by simp) _)
  have HT := Lib.hid (show a / 2 ^ (32 * RC) = b / 2 ^ (32 * RC) by rw [Nat.div_eq_of_lt ha, Nat.div_eq_of_lt hb])
  clear ha hb
  go_enter Tryz.func51, Tryz.ntmps51
  go_wp2_with fail
  go_loopw [5] (fun ii wx => ∃ i : Nat, ii = .int .i64 ((i : Int) - 1) ∧ Hid (i ≤ 70) ∧ Hid (a / 2 ^ (32 * i) = b / 2 ^ (32 * i)) ∧ Hid (URow wx w.heap.size 0 (dg a) ∧ URow wx (w.heap.size + 1) 0 (dg b) ∧ Below w.heap.size w wx)) (fun ii _ => (intOf ii + 1).toNat)
  case atStart => exact ⟨RC, rfl, Lib.hid (by rw [RC_eq]; omega), HT, Lib.hid ⟨R0.out, R1.out, B0.out⟩⟩
  case round =>
    obtain ⟨i, rfl, hi, hT, hI⟩ := hrel
    clear R0 R1 B0
    rcases Nat.eq_zero_or_pos i with h0 | h0
    · subst h0
      have e : cmpN a b = 0 := by have := top_all a b hT.out; subst this; unfold cmpN; simp
      have E := Lib.hid e
      clear e
      rw [show (((0 : Nat) : Int) - 1) = -1 from rfl]
      go_wp2_with fail
      go_ret
      exact ⟨by rw [E.out]; rfl, hI.out.2.2⟩
    · obtain ⟨t, rfl⟩ : ∃ t, i = t + 1 := ⟨i - 1, by omega⟩
      have ht : t < 70 := by have := hi.out; omega
      have ej : ((t + 1 : Nat) : Int) - 1 = (t : Int) := by omega
      rw [ej]
      clear ej
      have T := top_step a b t hT.out
      have c0 := (hI.out.1 t ht).1
      have c1 := (hI.out.2.1 t ht).1
      rw [Nat.zero_add] at c0 c1
      have t0 : (0 : Int) ≤ (t : Int) := by omega
      have t70 : (t : Int) < 70 := by omega
      have HTT := Lib.hid ht
      rcases Nat.lt_trichotomy (dg b t) (dg a t) with c | c | c
      · have E := Lib.hid (show cmpN a b = 1 by unfold cmpN; rw [if_pos (T.1 c)])
        have q : decide (dg b t < dg a t) = true := decide_eq_true c
        have q2 : decide (dg a t < dg b t) = false := decide_eq_false (by omega)
        clear T c ht
        go_wp2_with fail
        go_quiet (fail)
        go_wp2_with fail
        go_ret
        exact ⟨by rw [E.out]; rfl, by first | exact Bd hI.out.2.2 _ | exact Bd (Bd hI.out.2.2 _) _⟩
      · have TT := Lib.hid (T.2.2 c.symm)
        have q : decide (dg b t < dg a t) = false := decide_eq_false (by omega)
        have q2 : decide (dg a t < dg b t) = false := decide_eq_false (by omega)
        clear T c ht
        go_wp2_with fail
        go_quiet (fail)
        go_wp2_with fail
        go_quiet (fail)
        go_wp2_with fail
        go_roundw
        case rel => exact ⟨t, rfl, Lib.hid (by have := HTT.out; omega), TT, Lib.hid ⟨fun j hj => hI.out.1 j hj, fun j hj => hI.out.2.1 j hj, by first | exact Bd hI.out.2.2 _ | exact Bd (Bd hI.out.2.2 _) _⟩⟩
        case measure => simp [intOf]
      · have E := Lib.hid (show cmpN a b = -1 by unfold cmpN; rw [if_neg (by have := T.2.1 c; omega), if_pos (T.2.1 c)])
        have q : decide (dg b t < dg a t) = false := decide_eq_false (by omega)
        have q2 : decide (dg a t < dg b t) = true := decide_eq_true c
        clear T c ht
        go_wp2_with fail
        go_quiet (fail)
        go_wp2_with fail
        go_quiet (fail)
        go_wp2_with fail
        go_ret
        exact ⟨by rw [E.out]; rfl, by first | exact Bd hI.out.2.2 _ | exact Bd (Bd hI.out.2.2 _) _⟩
end Go.Proofs.YthohhepoddnbnaaGreatDoor

namespace Go.Proofs.YthohhepoddnbnaaGreatDoor
open Go.RowKit Fl

def ZU : Array Value := Array.replicate 70 (.int .u32 0)
theorem urow_zero (w : World) : URow (w.alloc (.cells (Array.replicate 70 (.int .u32 0)) 80)) w.heap.size 0 (fun _ => 0) := fun j hj => by
  refine ⟨?_, by simp [go_sem]⟩
  rw [Nat.zero_add, World.cell?_alloc_new w (Array.replicate 70 (.int .u32 0)) 80 j]
  simp [hj]
theorem URow.there {w : World} {b o : Nat} {f : Nat → Nat} (h : URow w b o f) {n : Nat} (hn : n = 70) : w.there b o n := fun j hj => by
  rw [(h j (by omega)).1, (h j (by omega)).2]; exact ⟨rfl, rfl⟩
theorem URow.drew {w : World} {b o : Nat} {f : Nat → Nat} (h : URow w b o f) : URow w.drew b o f := fun j hj => h j hj
theorem wp_gen' {P : Program} {c : Code} {Q : Exit → Act → World → Prop} {a : Act} {w : World} (R : World → Prop) (h : R w) (k : ∀ wx, R wx → c.wp P Q a wx) : c.wp P Q a w := k w h
theorem URow.drewN {w : World} {b o : Nat} {f : Nat → Nat} (h : URow w b o f) (n : Nat) : URow (w.drewN n) b o f := fun j hj => h j hj
set_option maxRecDepth 100000 in
set_option maxHeartbeats 4000000 in
theorem c169 (a b : Nat) (w : World) (hba : b ≤ a) : Calls Tryz.prog 52 #[.agg (UL a).toArray, .agg (UL b).toArray] w fun e w' => e = .returned (.agg (UL (a - b)).toArray) ∧ Below w.heap.size w w' := by
  have HBA := Lib.hid hba
  clear hba
  go_enter Tryz.func52, Tryz.ntmps52
  go_upto_region 2 with fail
  refine wp_gen' (fun wx => Hid ((URow wx w.heap.size 0 (dg a) ∧ URow wx (w.heap.size + 1) 0 (dg b)) ∧ (URow wx (w.heap.size + 1 + 1) 0 (fun _ => 0) ∧ URow wx (w.heap.size + 1 + 1 + 1) 0 (fun _ => 0)) ∧ Below w.heap.size w wx)) ?_ ?_
  · have e1 : (w.alloc (.cells (UL a).toArray 80)).heap.size = w.heap.size + 1 := by simp
    have e2 : ((w.alloc (.cells (UL a).toArray 80)).alloc (.cells (UL b).toArray 80)).heap.size = w.heap.size + 1 + 1 := by simp
    have e3 : (((w.alloc (.cells (UL a).toArray 80)).alloc (.cells (UL b).toArray 80)).alloc (.cells (Array.replicate 70 (.int .u32 0)) 80)).heap.size = w.heap.size + 1 + 1 + 1 := by simp
    have r0 := urow_new w a 80
    have r1 := urow_new (w.alloc (.cells (UL a).toArray 80)) b 80
    have r2 := urow_zero ((w.alloc (.cells (UL a).toArray 80)).alloc (.cells (UL b).toArray 80))
    have r3 := urow_zero (((w.alloc (.cells (UL a).toArray 80)).alloc (.cells (UL b).toArray 80)).alloc (.cells (Array.replicate 70 (.int .u32 0)) 80))
    have al := fun (W : World) (o : Obj) => (Below.refl W.heap.size W).alloc (Nat.le_refl _) o
    rw [e1] at r1
    rw [e2] at r2
    rw [e3] at r3
    exact Lib.hid ⟨⟨((r0.below (al _ _) (by simp)).below (al _ _) (by simp <;> omega)).below (al _ _) (by simp <;> omega), (r1.below (al _ _) (by simp)).below (al _ _) (by simp <;> omega)⟩, ⟨r2.below (al _ _) (by simp), r3⟩, ((((Below.refl _ _).alloc (Nat.le_refl _) _).alloc (by simp) _).alloc (by simp <;> omega) _).alloc (by simp <;> omega) _⟩
  intro wc hW
  go_wp2_with fail
  go_loopw [6, 7] (fun cc ii wx => ∃ i : Nat, ii = .int .i64 (i : Nat) ∧ cc = .int .i64 ((br a b i : Nat) : Int) ∧ Hid (i ≤ 70) ∧ Hid ((URow wx w.heap.size 0 (dg a) ∧ URow wx (w.heap.size + 1) 0 (dg b)) ∧ (URow wx (w.heap.size + 1 + 1) 0 (fun _ => 0) ∧ URow wx (w.heap.size + 1 + 1 + 1) 0 (fun j => if j < i then dg (a - b) j else 0)) ∧ Below w.heap.size w wx)) (fun _ ii _ => 70 - (intOf ii).toNat)
  case atStart => exact ⟨0, rfl, by rw [br_zero]; rfl, Lib.hid (by omega), Lib.hid ⟨hW.out.1, ⟨hW.out.2.1.1, hW.out.2.1.2.congr (fun j _ => by rw [if_neg (by omega)])⟩, hW.out.2.2⟩⟩
  case round =>
    obtain ⟨i, rfl, rfl, hi, hI⟩ := hrel
    clear hW
    by_cases hlt : i < 70
    · have hki : (i : Int) < 70 := by omega
      have hi0 : (0 : Int) ≤ (i : Int) := by omega
      have HLT := Lib.hid hlt
      have c0 := (hI.out.1.1 i hlt).1
      have c1 := (hI.out.1.2 i hlt).1
      obtain ⟨c2, f2⟩ := hI.out.2.1.2 i hlt
      rw [Nat.zero_add] at c0 c1 c2 f2
      have d1 := dg_lt a i
      have d2 := dg_lt b i
      have d3 := br_le a b i
      have n1 : (dg a i : Int) < 4294967296 := by omega
      have n2 : (dg b i : Int) < 4294967296 := by omega
      have n3 : (br a b i : Int) ≤ 1 := by omega
      have HD := Lib.hid (And.intro (dg_sub a b i HBA.out) (And.intro (br_succ a b i) (And.intro d1 (And.intro d2 d3))))
      by_cases hc : dg a i < dg b i + br a b i
      · have q : (dg a i : Int) - (dg b i : Int) - (br a b i : Int) < 0 := by omega
        have HC := Lib.hid hc
        clear hc d1 d2 d3 hlt
        go_wp2_with fail
        go_quiet (fail)
        go_wp2_with fail
        go_roundw
        case rel =>
          have D := HD.out
          have hlt := HLT.out
          have hc := HC.out
          have e3 : (dg a i : Int) - (dg b i : Int) - (br a b i : Int) + 4294967296 = ((dg (a - b) i : Nat) : Int) := by rw [D.1]; omega
          have e4 : br a b (i + 1) = 1 := by rw [D.2.1]; exact if_pos hc
          rw [e3]
          have r3 := (hI.out.2.1.2.drewN nq).set i hlt (dg (a - b) i)
          rw [Nat.zero_add] at r3
          refine ⟨i + 1, by go_num, by rw [e4]; rfl, Lib.hid (by omega), Lib.hid ⟨⟨(hI.out.1.1.drewN nq).other _ _ (by show w.heap.size + 1 + 1 + 1 ≠ _; omega), (hI.out.1.2.drewN nq).other _ _ (by show w.heap.size + 1 + 1 + 1 ≠ _; omega)⟩, ⟨(hI.out.2.1.1.drewN nq).other _ _ (by show w.heap.size + 1 + 1 + 1 ≠ _; omega), r3.congr (fun j hj => ?_)⟩, (Bd hI.out.2.2 nq).setCell (by show w.heap.size ≤ w.heap.size + 1 + 1 + 1; omega) _⟩⟩
          by_cases hji : j = i
          · rw [if_pos hji, if_pos (by omega), hji]
          · rw [if_neg hji]
            by_cases hj2 : j < i
            · rw [if_pos hj2, if_pos (by omega)]
            · rw [if_neg hj2, if_neg (by omega)]
        case measure => have := HLT.out; simp [intOf]; omega
      · have q : decide ((dg a i : Int) - (dg b i : Int) - (br a b i : Int) < 0) = false := decide_eq_false (by omega)
        have q3 : (dg b i : Int) + (br a b i : Int) ≤ (dg a i : Int) := by omega
        have q4 : 0 ≤ (dg a i : Int) - (dg b i : Int) - (br a b i : Int) := by omega
        have HC := Lib.hid hc
        clear hc d1 d2 d3 hlt
        go_wp2_with fail
        go_quiet (fail)
        go_wp2_with fail
        go_roundw
        case rel =>
          have D := HD.out
          have hlt := HLT.out
          have hc := HC.out
          have e3 : (dg a i : Int) - (dg b i : Int) - (br a b i : Int) = ((dg (a - b) i : Nat) : Int) := by rw [D.1]; omega
          have e4 : br a b (i + 1) = 0 := by rw [D.2.1]; exact if_neg hc
          rw [e3]
          have r3 := (hI.out.2.1.2.drewN nq).set i hlt (dg (a - b) i)
          rw [Nat.zero_add] at r3
          refine ⟨i + 1, by go_num, by rw [e4]; rfl, Lib.hid (by omega), Lib.hid ⟨⟨(hI.out.1.1.drewN nq).other _ _ (by show w.heap.size + 1 + 1 + 1 ≠ _; omega), (hI.out.1.2.drewN nq).other _ _ (by show w.heap.size + 1 + 1 + 1 ≠ _; omega)⟩, ⟨(hI.out.2.1.1.drewN nq).other _ _ (by show w.heap.size + 1 + 1 + 1 ≠ _; omega), r3.congr (fun j hj => ?_)⟩, (Bd hI.out.2.2 nq).setCell (by show w.heap.size ≤ w.heap.size + 1 + 1 + 1; omega) _⟩⟩
          by_cases hji : j = i
          · rw [if_pos hji, if_pos (by omega), hji]
          · rw [if_neg hji]
            by_cases hj2 : j < i
            · rw [if_pos hj2, if_pos (by omega)]
            · rw [if_neg hj2, if_neg (by omega)]
        case measure => have := HLT.out; simp [intOf]; omega
    · have hki : ¬ (i : Int) < 70 := by omega
      have h70 : i = 70 := by have := hi.out; omega
      subst h70
      have RR := Lib.hid ((hI.out.2.1.2.congr (g := dg (a - b)) (fun j hj => by rw [if_pos hj])).range)
      have T0 := Lib.hid (hI.out.2.1.1.there (n := (UL (a - b)).toArray.size) (by rw [List.size_toArray, UL_len]))
      have T1 := Lib.hid (hI.out.2.1.1.there (n := (UL (a - b)).length) (UL_len _))
      have E1 := Lib.hid (show (Tryz.prog.info? 80).map (·.size) = some (UL (a - b)).length by rw [UL_len]; exact size108)
      have E2 := Lib.hid (show (Tryz.prog.info? 80).map (·.size) = some (UL (a - b)).toArray.size by rw [List.size_toArray, UL_len]; exact size108)
      have BB := Lib.hid (below_setCells hI.out.2.2 (show w.heap.size ≤ w.heap.size + 1 + 1 by omega) 0 (UL (a - b)))
      clear hlt hi hI
      go_wp2_with (first
        | (refine wpList_load_mid rfl 80 (.tmp 5) rfl (w.heap.size + 1 + 1 + 1) 0 rfl (UL (a - b)) _ RR.out Tryz.underlying80 rfl E1.out ?_)
        | (refine wpList_store_mid rfl 80 (.tmp 4) (.tmp 32) rfl (w.heap.size + 1 + 1) 0 (UL (a - b)).toArray rfl rfl T0.out E2.out (UL_one _) ?_))
      refine bodyPost_ret (v := .agg (UL (a - b)).toArray) (results_cell1 Tryz.results52 rfl (run_loadVar_mid (P := Tryz.prog) _ _ 0 80 (UL (a - b)) _ (World.rangeAt_setCells_same _ _ _ _ T1.out) Tryz.underlying80 rfl E1.out)) rfl ⟨rfl, BB.out⟩
end Go.Proofs.YthohhepoddnbnaaGreatDoor
