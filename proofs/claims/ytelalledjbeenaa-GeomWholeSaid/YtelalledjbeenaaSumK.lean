/- Slices of floats, nil and empty ones too: the four sums; a row of the call's own; signs turned. -/
import Derived.Test.YtelalledjbeenaaMgSumsI
import Derived.OwnWalk
import Derived.Deep.AppendLies
namespace Go.Proofs.Ytelalledjbeenaa
open Go.RowKit Fl

/-- a slice's numbers: none, or they lie in a block -/
def FS (w : World) (A : Option Addr) (l : List Nat) : Prop := l = [] ∨ ∃ b o, A = some ⟨b, o, none⟩ ∧ FL w b o l
theorem FS.below {w w' : World} {A : Option Addr} {l : List Nat} (h : FS w A l) (hb : Below w.heap.size w w') : FS w' A l := by
  rcases h with h | ⟨b, o, h1, h2⟩
  · exact .inl h
  · exact .inr ⟨b, o, h1, h2.below hb⟩
theorem FL.keep {w0 w w' : World} {b o : Nat} {l : List Nat} (h : FL w b o l) (hb : Below w0.heap.size w0 w) (hb' : Below w0.heap.size w0 w') (hlt : b < w0.heap.size) : FL w' b o l :=
  ⟨fun j x hj => ((hb'.cell (p := ⟨b, o + j, none⟩) hlt).trans (hb.cell (p := ⟨b, o + j, none⟩) hlt).symm).trans (h.cell j x hj), h.u, Nat.lt_of_lt_of_le hlt hb'.size⟩
theorem FS.u {w : World} {A : Option Addr} {l : List Nat} (h : FS w A l) : ∀ x ∈ l, U x := by
  rcases h with rfl | ⟨b, o, _, h2⟩
  · intro x hx; cases hx
  · intro x hx
    obtain ⟨j, hj⟩ := List.getElem?_of_mem hx
    exact h2.u j x hj
theorem c26F (A : Option Addr) (c : Nat) (l : List Nat) (w : World) (h : FS w A l) (hl : l.length < 4611686018427387904) :
    Calls Try.prog 26 #[.slice A l.length c] w fun e w' => RetF (plainP l) e ∧ Below w.heap.size w w' := by
  rcases h with rfl | ⟨b, o, rfl, h⟩
  · exact (c26z A c w).mono fun e w' ⟨he, hw⟩ => ⟨⟨_, he, by unfold U; decide, by decide⟩, by subst hw; exact Below.refl _ _⟩
  · exact c26 b o c l w h hl
theorem c23F (A : Option Addr) (c : Nat) (l : List Nat) (w : World) (h : FS w A l) (hl : l.length < 4611686018427387904) :
    Calls Try.prog 23 #[.slice A l.length c] w fun e w' => RetF (pV (accS l)) e ∧ Below w.heap.size w w' := by
  rcases h with rfl | ⟨b, o, rfl, h⟩
  · exact c23z A c w
  · exact c23 b o c l w h hl
theorem c27F (A : Option Addr) (c : Nat) (l : List Nat) (w : World) (h : FS w A l) (hl : l.length < 4611686018427387904) :
    Calls Try.prog 27 #[.slice A l.length c] w fun e w' => RetF (heldP l) e ∧ Below w.heap.size w w' := by
  rcases h with rfl | ⟨b, o, rfl, h⟩
  · have e : heldP [] = -1 := by decide
    rw [e]; exact c27z A c w
  · exact c27 b o c l w h hl
theorem c28F (A : Option Addr) (c : Nat) (l : List Nat) (w : World) (h : FS w A l) (hl : l.length ≤ c) (hc : l.length < 4611686018427387904) :
    Calls Try.prog 28 #[.slice A l.length c] w fun e w' => RetF (pairsP l) e ∧ Below w.heap.size w w' := by
  rcases h with rfl | ⟨b, o, rfl, h⟩
  · have e : pairsP [] = -1 := by rw [pairsP]; decide
    rw [e]; exact (c28z A c w).mono fun e w' ⟨he, hw⟩ => ⟨he, by subst hw; exact Below.refl _ _⟩
  · exact c28 l.length b o c l w (Nat.le_refl _) h hl hc

/-! ### signs turned -/
theorem sumU_ng (l : List Nat) (h : ∀ x ∈ l, U x) : sumU (l.map ng) = -sumU l := by
  induction l with
  | nil => rfl
  | cons x r ih =>
    have hx := h x (List.mem_cons_self ..)
    have e := ih fun y hy => h y (List.mem_cons_of_mem _ hy)
    unfold sumU at *
    rw [List.map_cons, List.map_cons, List.sum_cons, e, List.map_cons, List.sum_cons, fin_ng hx, un_ng hx]
    by_cases hf : fin x = true
    · rw [if_pos hf, if_pos hf]; omega
    · rw [if_neg hf, if_neg hf]; omega
theorem any_ng (l : List Nat) (h : ∀ x ∈ l, U x) (p q : Nat → Bool) (hpq : ∀ x, U x → p (ng x) = q x) : (l.map ng).any p = l.any q := by
  induction l with
  | nil => rfl
  | cons x r ih => rw [List.map_cons, List.any_cons, List.any_cons, hpq x (h x (List.mem_cons_self ..)), ih fun y hy => h y (List.mem_cons_of_mem _ hy)]
theorem ng_inf (x : Nat) (h : U x) (s : Bool) : ng x = word s INF ↔ x = word (!s) INF := by
  have h1 := word_self x h.lt
  rw [ng_eq x h]
  have hl := rg_lt x
  constructor
  · intro e
    have e1 := congrArg sg e
    have e2 := congrArg rg e
    rw [sg_word _ _ hl, sg_word _ _ (by decide)] at e1
    rw [rg_word _ _ hl, rg_word _ _ (by decide)] at e2
    rw [← h1, e2, ← e1, Bool.not_not]
  · intro e
    have e1 := congrArg sg e
    have e2 := congrArg rg e
    rw [sg_word _ _ (by decide)] at e1
    rw [rg_word _ _ (by decide)] at e2
    rw [e1, e2, Bool.not_not]
theorem turned_law (l : List Nat) (h : ∀ x ∈ l, U x) : (pV (accS l) == ngP (pV (accS (l.map ng)))) = true ∨ (feqP (pV (accS l)) 0 = true ∧ feqP (pV (accS (l.map ng))) 0 = true) := by
  rw [accS_eq, accS_eq, sumU_ng l h]
  rw [any_ng l h isN isN (fun x hx => isN_ng hx)]
  rw [any_ng l h (fun x => decide (x = 9218868437227405312)) (fun x => decide (x = 18442240474082181120)) (fun x hx => by
    have := ng_inf x hx false
    rw [show word false INF = 9218868437227405312 by decide, show word (!false) INF = 18442240474082181120 by decide] at this
    simp only [this])]
  rw [any_ng l h (fun x => decide (x = 18442240474082181120)) (fun x => decide (x = 9218868437227405312)) (fun x hx => by
    have := ng_inf x hx true
    rw [show word true INF = 18442240474082181120 by decide, show word (!true) INF = 9218868437227405312 by decide] at this
    simp only [this])]
  generalize l.any isN = a
  generalize l.any (fun x => decide (x = 9218868437227405312)) = b
  generalize l.any (fun x => decide (x = 18442240474082181120)) = c
  generalize anyS l = d
  generalize anyS (l.map ng) = e
  generalize sumU l = z
  cases a
  · cases b <;> cases c
    · rw [pV_wz, pV_wz, pl_wz, pl_wz, Int.natAbs_neg]
      have hr := rnd_le z.natAbs
      unfold INF at hr
      by_cases h0 : z = 0
      · right
        subst h0
        cases d <;> cases e <;> decide +kernel
      · left
        by_cases h1 : z < 0
        · rw [if_pos h1, if_neg (by omega), if_neg (fun h => h0 (by omega))]
          unfold ngP
          rw [if_neg (by omega), beq_iff_eq]; omega
        · rw [if_neg h1, if_neg (fun h => h0 h.1), if_pos (by omega)]
          unfold ngP
          rw [if_neg (by omega), beq_iff_eq]; omega
    · left; unfold pV; simp; decide
    · left; unfold pV; simp; decide
    · left; unfold pV; simp; decide
  · left; unfold pV; simp; decide

/-! ### a row of the call's own -/
theorem info24 : (Try.prog.info? 24).map (fun i => (i.zero, i.size, i.bytes)) = some (some (.float .f64 0), 1, 8) := by kernel_rfl
theorem made_one (v : Value) (n : Nat) : (madeCells #[v] (n * 1)).toList = List.replicate n v := by
  rw [Nat.mul_one]
  apply List.ext_getElem
  · simp [size_madeCells]
  · intro i h1 h2
    simp [madeCells, Nat.mod_one]
/-- block g is a row of n floats that the call made -/
def OwnF (w : World) (B g n : Nat) (m : List Nat) : Prop := w.ownsRow B 24 1 (.slice (some ⟨g, 0, none⟩) n n) n (m.map (Value.float .f64))
theorem OwnF.FL {w : World} {B g n : Nat} {m : List Nat} (h : OwnF w B g n m) (hU : ∀ x ∈ m, U x) (hn : 0 < n) : FL w g 0 m := by
  obtain ⟨g', cap, hv, _, hlt⟩ := World.ownsRow.form h hn
  injection hv with hv _ _
  injection hv with hv
  injection hv with hv
  subst hv
  refine ⟨fun j x hj => ?_, fun j x hj => hU x (List.mem_of_getElem? hj), hlt⟩
  have hl : (m.map (Value.float .f64)).length = n * 1 := h.1
  rw [List.length_map, Nat.mul_one] at hl
  have hj' : j < n := by rw [← hl]; exact (List.getElem?_eq_some_iff.1 hj).1
  rw [Nat.zero_add, World.ownsRow.cellAt h j (by omega), List.getElem?_map, hj]; rfl
theorem OwnF.store {w : World} {B g n k : Nat} {m : List Nat} (h : OwnF w B g n m) (hk : k < n) (v : Nat) :
    (Go.store ⟨g, k, none⟩ (.float .f64 v)).run Try.prog w = .ok () (w.setCell ⟨g, k, none⟩ (.float .f64 v)) := by
  have h1 : (m.map (Value.float .f64)).length = n * 1 := h.1
  have kd : w.cell? ⟨g, k, none⟩ = some ((m.map (Value.float .f64))[k]'(by omega)) := (World.ownsRow.cellAt h k (by omega)).trans (List.getElem?_eq_getElem (by omega))
  have kf : w.frozen? ⟨g, k, none⟩ = false := World.ownsRow.frozenAt h k
  rw [run_store Try.prog _ _ _ _ rfl, kd, kf]; rfl
theorem turn_set (l : List Nat) (k x : Nat) (h : l[k]? = some x) : ((l.take k).map ng ++ List.replicate (l.length - k) 0).set k (ng x) = (l.take (k + 1)).map ng ++ List.replicate (l.length - (k + 1)) 0 := by
  have hk := (List.getElem?_eq_some_iff.1 h).1
  have e1 : ((l.take k).map ng).length = k := by rw [List.length_map, List.length_take]; omega
  rw [List.set_append_right _ _ (by omega), e1, Nat.sub_self]
  rw [show l.length - k = (l.length - (k + 1)) + 1 by omega, List.replicate_succ, List.set_cons_zero, List.take_add_one, h]
  simp

set_option maxRecDepth 100000 in
set_option maxHeartbeats 1000000 in
theorem walkSumsTurned1 (b o c : Nat) (l : List Nat) (w : World) (h : FL w b o l) (hl : l.length * 8 ≤ 140737488351232) :
    Calls Try.prog 3 #[.slice (some ⟨b, o, none⟩) l.length c] w fun e w' => e = .returned (.bool true) ∧ Below w.heap.size w w' := by
  obtain ⟨i0, hi, hz0, hz1, hz2⟩ := info_parts info24
  have HT := Lib.hid (turned_law l (fun x hx => by obtain ⟨j, hj⟩ := List.getElem?_of_mem hx; exact h.u j x hj))
  have H := Lib.hid h
  have HL := Lib.hid hl
  have HI := Lib.hid (And.intro hi (And.intro hz0 (And.intro hz1 hz2)))
  clear h hi hz0 hz1 hz2
  go_enter Try.func3, Try.ntmps3
  go_wp2_with fail
  refine (c22 _).mono ?_
  rintro e w1 ⟨rfl, hb⟩
  have B1 := Lib.hid hb
  clear hb
  go_wp2_with fail
  refine (c23 b o c l _ (H.out.below B1.out) (by omega)).mono ?_
  rintro e w2 ⟨⟨r1, rfl, u1, hr1⟩, hb⟩
  have B2 := Lib.hid (below_trans B1.out hb)
  have R1 := Lib.hid (And.intro u1 hr1)
  clear hb u1 hr1 B1
  go_wp2_with (at_make; refine wpList_make_full _ rfl _ _ 22 rfl w.heap.size 24 i0 (.float .f64 0) 1 Try.underlying22 HI.out.1 HI.out.2.1 HI.out.2.2.1 .i64 .i64 _ _ l.length rfl rfl rfl rfl (by rw [HI.out.2.2.2]; omega) (by unfold maxLen; omega) B2.out.size ?_; intro w3 hown hgrow)
  have O0 : Hid (OwnF w3 w.heap.size w2.heap.size l.length (List.replicate l.length 0)) := Lib.hid (by unfold OwnF; rw [List.map_replicate]; rw [show (Value.float FloatKind.f64 0).cells = #[.float .f64 0] from rfl, made_one] at hown; exact hown)
  have B3 := Lib.hid (B2.out.grown hgrow B2.out.size (fun k hk => by cases hk))
  have G3 := Lib.hid B2.out.size
  have HI2 := Lib.hid (H.out.u)
  clear hown hgrow B2 HI
  generalize w2.heap.size = g at *
  go_loopw [6] (fun i wx => ∃ k : Nat, k ≤ l.length ∧ i = .int .i64 k ∧ Hid (OwnF wx w.heap.size g l.length ((l.take k).map ng ++ List.replicate (l.length - k) 0)) ∧ Hid (Below w.heap.size w wx)) (fun i _ => l.length - (intOf i).toNat)
  case atStart => exact ⟨0, by omega, rfl, Lib.hid (by rw [List.take_zero, Nat.sub_zero]; exact O0.out), B3⟩
  case round =>
    obtain ⟨k, hk, rfl, hO, hB⟩ := hrel
    clear O0 B3
    by_cases hlt : k < l.length
    · obtain ⟨x, hx⟩ : ∃ x, l[k]? = some x := ⟨l[k], List.getElem?_eq_getElem hlt⟩
      have HX := Lib.hid hx
      have HLT := Lib.hid hlt
      have kc := (H.out.below hB.out).cell k x hx
      have st : (store ⟨g, k, none⟩ (.float .f64 (Op.negFloat .f64 x))).run Try.prog wr = .ok () (wr.setCell ⟨g, k, none⟩ (.float .f64 (Op.negFloat .f64 x))) := hO.out.store hlt _
      have hneg : ∀ (b : Nat) (w : World), (Op.unary .neg (.float .f64 b)).run Try.prog w = .ok (.float .f64 (Op.negFloat .f64 b)) w := fun _ _ => rfl
      have O2 : Hid (OwnF (_) w.heap.size g l.length ((l.take (k + 1)).map ng ++ List.replicate (l.length - (k + 1)) 0)) := Lib.hid (by
        have := (World.ownsRow.stored hO.out k (.float .f64 (ng x))).1
        rw [← List.map_set, turn_set l k x hx] at this
        exact this)
      have B2 := Lib.hid (hB.out.setCell (p := ⟨g, k, none⟩) G3.out (.float .f64 (ng x)))
      have hki : (k : Int) < (l.length : Int) := by omega
      clear hx hlt hO hB
      go_wp2
      go_roundw
      case rel => exact ⟨k + 1, by have := HLT.out; omega, by go_num, O2, B2⟩
      case measure => have := HLT.out; simp [intOf]; omega
    · have hki : ¬ (k : Int) < (l.length : Int) := by omega
      have hkl : k = l.length := by omega
      have hO2 : OwnF wr w.heap.size g l.length (l.map ng) := by
        have := hO.out
        rw [hkl, List.take_length, Nat.sub_self, List.replicate_zero, List.append_nil] at this
        exact this
      have hpos : l = [] ∨ 0 < l.length := by cases l; exact .inl rfl; exact .inr (by simp)
      have HS : Hid (FS wr (some ⟨g, 0, none⟩) (l.map ng)) := Lib.hid (by
        rcases hpos with h0 | h0
        · left; rw [h0]; rfl
        · exact .inr ⟨g, 0, rfl, hO2.FL (fun x hx => by obtain ⟨y, hy, rfl⟩ := List.mem_map.1 hx; obtain ⟨j, hj⟩ := List.getElem?_of_mem hy; exact U_ng (HI2.out j y hj)) h0⟩)
      have H23 := Lib.hid (c23F (some ⟨g, 0, none⟩) l.length (l.map ng) wr HS.out (by rw [List.length_map]; omega))
      rw [List.length_map] at H23
      clear hkl hlt hO hO2 hpos
      go_wp2_with fail
      refine H23.out.mono ?_
      rintro e w4 ⟨⟨r2, rfl, u2, hr2⟩, hb⟩
      have B4 := Lib.hid (below_trans hB.out hb)
      have R2 := Lib.hid (And.intro u2 hr2)
      have hneg : ∀ (b : Nat) (w : World), (Op.unary .neg (.float .f64 b)).run Try.prog w = .ok (.float .f64 (Op.negFloat .f64 b)) w := fun _ _ => rfl
      clear hb u2 hr2 hB HS H23
      go_wp2_with fail
      refine (c24 r1 (ng r2) _ R1.out.1 (U_ng R2.out.1)).mono ?_
      rintro e w5 ⟨rfl, rfl⟩
      have hT := HT.out
      rw [← R1.out.2, ← R2.out.2, ← pl_ng R2.out.1] at hT
      have e1 := f_eq r1 0 R1.out.1 (by unfold U; decide)
      have e2 := f_eq r2 0 R2.out.1 (by unfold U; decide)
      rw [show pl 0 = 0 by decide] at e1 e2
      generalize (pl r1 == pl (ng r2)) = bb at *
      cases bb
      · obtain ⟨t1, t2⟩ := hT.resolve_left Bool.false_ne_true
        rw [t1] at e1
        rw [t2] at e2
        clear hT t1 t2
        go_wp2
        go_ret
        exact ⟨rfl, B4.out⟩
      · clear hT e1 e2
        go_wp2
        go_ret
        exact ⟨rfl, B4.out⟩

set_option maxRecDepth 100000 in
set_option maxHeartbeats 1000000 in
theorem walkSumsTurned0 (A : Option Addr) (c : Nat) (w : World) :
    Calls Try.prog 3 #[.slice A 0 c] w fun e w' => e = .returned (.bool true) ∧ Below w.heap.size w w' := by
  obtain ⟨i0, hi, hz0, hz1, hz2⟩ := info_parts info24
  have HI := Lib.hid (And.intro hi (And.intro hz0 (And.intro hz1 hz2)))
  clear hi hz0 hz1 hz2
  go_enter Try.func3, Try.ntmps3
  go_wp2_with fail
  refine (c22 _).mono ?_
  rintro e w1 ⟨rfl, hb⟩
  have B1 := Lib.hid hb
  clear hb
  go_wp2_with fail
  refine (c23z A c _).mono ?_
  rintro e w2 ⟨⟨r1, rfl, u1, hr1⟩, hb⟩
  have B2 := Lib.hid (below_trans B1.out hb)
  have R1 := Lib.hid (And.intro u1 hr1)
  clear hb u1 hr1 B1
  go_wp2_with (at_make; refine wpList_make_full _ rfl _ _ 22 rfl w.heap.size 24 i0 (.float .f64 0) 1 Try.underlying22 HI.out.1 HI.out.2.1 HI.out.2.2.1 .i64 .i64 _ _ 0 rfl rfl rfl rfl (by omega) (by unfold maxLen; omega) B2.out.size ?_; intro w3 hown hgrow)
  have B3 := Lib.hid (B2.out.grown hgrow B2.out.size (fun k hk => by cases hk))
  clear hown hgrow B2
  generalize w2.heap.size = g at *
  go_loopw [6] (fun i wx => i = .int .i64 0 ∧ Hid (Below w.heap.size w wx)) (fun i _ => 1 - (intOf i).toNat)
  case atStart => exact ⟨rfl, B3⟩
  case round =>
    obtain ⟨rfl, hB⟩ := hrel
    clear B3
    go_wp2_with fail
    refine (c23z (some ⟨g, 0, none⟩) 0 wr).mono ?_
    rintro e w4 ⟨⟨r2, rfl, u2, hr2⟩, hb⟩
    have B4 := Lib.hid (below_trans hB.out hb)
    have R2 := Lib.hid (And.intro u2 hr2)
    have hneg : ∀ (b : Nat) (w : World), (Op.unary .neg (.float .f64 b)).run Try.prog w = .ok (.float .f64 (Op.negFloat .f64 b)) w := fun _ _ => rfl
    clear hb u2 hr2 hB
    go_wp2_with fail
    refine (c24 r1 (ng r2) _ R1.out.1 (U_ng R2.out.1)).mono ?_
    rintro e w5 ⟨rfl, rfl⟩
    have e1 := f_eq r1 0 R1.out.1 (by unfold U; decide)
    have e2 := f_eq r2 0 R2.out.1 (by unfold U; decide)
    rw [R1.out.2, show feqP (pV (accS [])) (pl 0) = true by decide +kernel] at e1
    rw [R2.out.2, show feqP (pV (accS [])) (pl 0) = true by decide +kernel] at e2
    generalize (pl r1 == pl (ng r2)) = bb at *
    cases bb
    · go_wp2
      go_ret
      exact ⟨rfl, B4.out⟩
    · go_wp2
      go_ret
      exact ⟨rfl, B4.out⟩
theorem walkSumsTurned (A : Option Addr) (l : List Nat) (c : Nat) (w : World) (h : FS w A l) (hlc : l.length ≤ c) (hc : c * 8 ≤ 140737488351232) :
    Calls Try.prog 3 #[.slice A l.length c] w fun e w' => e = .returned (.bool true) ∧ Below w.heap.size w w' := by
  rcases h with rfl | ⟨b, o, rfl, h⟩
  · exact walkSumsTurned0 A c w
  · exact walkSumsTurned1 b o c l w h (by omega)
end Go.Proofs.Ytelalledjbeenaa
