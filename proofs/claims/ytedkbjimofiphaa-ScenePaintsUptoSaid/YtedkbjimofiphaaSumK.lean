/- Slices of floats, nil and empty ones too: the four sums; a row of the call's own; signs turned. -/
import Derived.Test.YtedkbjimofiphaaMgSumsI
import Derived.OwnWalk
import Derived.Deep.AppendLies
namespace Go.Proofs.Ytedkbjimofiphaa
open Go.RowKit Fl

/-- a slice's numbers: none, or they lie in a block -/
def FS (w : World) (A : Option Addr) (l : List Nat) : Prop := l = [] ∨ ∃ b o, A = some ⟨b, o, none⟩ ∧ FL w b o l
theorem FS.below {w w' : World} {A : Option Addr} {l : List Nat} (h : FS w A l) (hb : Below w.heap.size w w') : FS w' A l := by
  rcases h with h | ⟨b, o, h1, h2⟩
  · exact .inl h
  · exact .inr ⟨b, o, h1, h2.below hb⟩
theorem FL.keep {w0 w w' : World} {b o : Nat} {l : List Nat} (h : FL w b o l) (hb : Below w0.heap.size w0 w) (hb' : Below w0.heap.size w0 w') (hlt : b < w0.heap.size) : FL w' b o l :=
  ⟨fun j x hj => ((hb'.cell (p := ⟨b, o + j, none⟩) hlt).trans (hb.cell (p := ⟨b, o + j, none⟩) hlt).symm).trans (h.cell j x hj), h.u, Nat.lt_of_lt_of_le hlt hb'.size⟩
theorem FS.u {w : World} {A : Option Addr} {l : List Nat} (h : FS w A l) : ∀ x ∈ l, U x := by
  rcases h with rfl | ⟨b, o, _, h2⟩
  · intro x hx; cases hx
  · intro x hx
    obtain ⟨j, hj⟩ := List.getElem?_of_mem hx
    exact h2.u j x hj
theorem c23F (A : Option Addr) (c : Nat) (l : List Nat) (w : World) (h : FS w A l) (hl : l.length < 4611686018427387904) :
    Calls Try.prog 43 #[.slice A l.length c] w fun e w' => RetF (pV (accS l)) e ∧ Below w.heap.size w w' := by
  rcases h with rfl | ⟨b, o, rfl, h⟩
  · exact c23z A c w
  · exact c23 b o c l w h hl
/-! ### signs turned -/
theorem sumU_ng (l : List Nat) (h : ∀ x ∈ l, U x) : sumU (l.map ng) = -sumU l := by
  induction l with
  | nil => rfl
  | cons x r ih =>
    have hx := h x (List.mem_cons_self ..)
    have e := ih fun y hy => h y (List.mem_cons_of_mem _ hy)
    unfold sumU at *
    rw [List.map_cons, List.map_cons, List.sum_cons, e, List.map_cons, List.sum_cons, fin_ng hx, un_ng hx]
    by_cases hf : fin x = true
    · rw [if_pos hf, if_pos hf]; omega
    · rw [if_neg hf, if_neg hf]; omega
theorem any_ng (l : List Nat) (h : ∀ x ∈ l, U x) (p q : Nat → Bool) (hpq : ∀ x, U x → p (ng x) = q x) : (l.map ng).any p = l.any q := by
  induction l with
  | nil => rfl
  | cons x r ih => rw [List.map_cons, List.any_cons, List.any_cons, hpq x (h x (List.mem_cons_self ..)), ih fun y hy => h y (List.mem_cons_of_mem _ hy)]
theorem ng_inf (x : Nat) (h : U x) (s : Bool) : ng x = word s INF ↔ x = word (!s) INF := by
  have h1 := word_self x h.lt
  rw [ng_eq x h]
  have hl := rg_lt x
  constructor
  · intro e
    have e1 := congrArg sg e
    have e2 := congrArg rg e
    rw [sg_word _ _ hl, sg_word _ _ (by decide)] at e1
    rw [rg_word _ _ hl, rg_word _ _ (by decide)] at e2
    rw [← h1, e2, ← e1, Bool.not_not]
  · intro e
    have e1 := congrArg sg e
    have e2 := congrArg rg e
    rw [sg_word _ _ (by decide)] at e1
    rw [rg_word _ _ (by decide)] at e2
    rw [e1, e2, Bool.not_not]
theorem turned_law (l : List Nat) (h : ∀ x ∈ l, U x) : (pV (accS l) == ngP (pV (accS (l.map ng)))) = true ∨ (feqP (pV (accS l)) 0 = true ∧ feqP (pV (accS (l.map ng))) 0 = true) := by
  rw [accS_eq, accS_eq, sumU_ng l h]
  rw [any_ng l h isN isN (fun x hx => isN_ng hx)]
  rw [any_ng l h (fun x => decide (x = 9218868437227405312)) (fun x => decide (x = 18442240474082181120)) (fun x hx => by
    have := ng_inf x hx false
    rw [show word false INF = 9218868437227405312 by decide, show word (!false) INF = 18442240474082181120 by decide] at this
    simp only [this])]
  rw [any_ng l h (fun x => decide (x = 18442240474082181120)) (fun x => decide (x = 9218868437227405312)) (fun x hx => by
    have := ng_inf x hx true
    rw [show word true INF = 18442240474082181120 by decide, show word (!true) INF = 9218868437227405312 by decide] at this
    simp only [this])]
  generalize l.any isN = a
  generalize l.any (fun x => decide (x = 9218868437227405312)) = b
  generalize l.any (fun x => decide (x = 18442240474082181120)) = c
  generalize anyS l = d
  generalize anyS (l.map ng) = e
  generalize sumU l = z
  cases a
  · cases b <;> cases c
    · rw [pV_wz, pV_wz, pl_wz, pl_wz, Int.natAbs_neg]
      have hr := rnd_le z.natAbs
      unfold INF at hr
      by_cases h0 : z = 0
      · right
        subst h0
        cases d <;> cases e <;> decide +kernel
      · left
        by_cases h1 : z < 0
        · rw [if_pos h1, if_neg (by omega), if_neg (fun h => h0 (by omega))]
          unfold ngP
          rw [if_neg (by omega), beq_iff_eq]; omega
        · rw [if_neg h1, if_neg (fun h => h0 h.1), if_pos (by omega)]
          unfold ngP
          rw [if_neg (by omega), beq_iff_eq]; omega
    · left; unfold pV; simp; decide
    · left; unfold pV; simp; decide
    · left; unfold pV; simp; decide
  · left; unfold pV; simp; decide

/-! ### a row of the call's own -/
theorem info24 : (Try.prog.info? 31).map (fun i => (i.zero, i.size, i.bytes)) = some (some (.float .f64 0), 1, 8) := by kernel_rfl
theorem made_one (v : Value) (n : Nat) : (madeCells #[v] (n * 1)).toList = List.replicate n v := by
  rw [Nat.mul_one]
  apply List.ext_getElem
  · simp [size_madeCells]
  · intro i h1 h2
    simp [madeCells, Nat.mod_one]
/-- block g is a row of n floats that the call made -/
def OwnF (w : World) (B g n : Nat) (m : List Nat) : Prop := w.ownsRow B 31 1 (.slice (some ⟨g, 0, none⟩) n n) n (m.map (Value.float .f64))
theorem OwnF.FL {w : World} {B g n : Nat} {m : List Nat} (h : OwnF w B g n m) (hU : ∀ x ∈ m, U x) (hn : 0 < n) : FL w g 0 m := by
  obtain ⟨g', cap, hv, _, hlt⟩ := World.ownsRow.form h hn
  injection hv with hv _ _
  injection hv with hv
  injection hv with hv
  subst hv
  refine ⟨fun j x hj => ?_, fun j x hj => hU x (List.mem_of_getElem? hj), hlt⟩
  have hl : (m.map (Value.float .f64)).length = n * 1 := h.1
  rw [List.length_map, Nat.mul_one] at hl
  have hj' : j < n := by rw [← hl]; exact (List.getElem?_eq_some_iff.1 hj).1
  rw [Nat.zero_add, World.ownsRow.cellAt h j (by omega), List.getElem?_map, hj]; rfl
theorem OwnF.store {w : World} {B g n k : Nat} {m : List Nat} (h : OwnF w B g n m) (hk : k < n) (v : Nat) :
    (Go.store ⟨g, k, none⟩ (.float .f64 v)).run Try.prog w = .ok () (w.setCell ⟨g, k, none⟩ (.float .f64 v)) := by
  have h1 : (m.map (Value.float .f64)).length = n * 1 := h.1
  have kd : w.cell? ⟨g, k, none⟩ = some ((m.map (Value.float .f64))[k]'(by omega)) := (World.ownsRow.cellAt h k (by omega)).trans (List.getElem?_eq_getElem (by omega))
  have kf : w.frozen? ⟨g, k, none⟩ = false := World.ownsRow.frozenAt h k
  rw [run_store Try.prog _ _ _ _ rfl, kd, kf]; rfl
theorem turn_set (l : List Nat) (k x : Nat) (h : l[k]? = some x) : ((l.take k).map ng ++ List.replicate (l.length - k) 0).set k (ng x) = (l.take (k + 1)).map ng ++ List.replicate (l.length - (k + 1)) 0 := by
  have hk := (List.getElem?_eq_some_iff.1 h).1
  have e1 : ((l.take k).map ng).length = k := by rw [List.length_map, List.length_take]; omega
  rw [List.set_append_right _ _ (by omega), e1, Nat.sub_self]
  rw [show l.length - k = (l.length - (k + 1)) + 1 by omega, List.replicate_succ, List.set_cons_zero, List.take_add_one, h]
  simp

end Go.Proofs.Ytedkbjimofiphaa
