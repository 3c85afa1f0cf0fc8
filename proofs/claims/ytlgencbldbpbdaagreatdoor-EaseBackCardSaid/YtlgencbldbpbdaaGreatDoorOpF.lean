/- Arguments that are slices of one-cell elements, opened: their values lie in a block, or there are none. -/
import Derived.Test.YtlgencbldbpbdaaGreatDoorEwA
import Derived.Deep.Slices
import Derived.ChangeArms
import Derived.ProofKit
import Derived.SizedLaws
namespace Go.Proofs.YtlgencbldbpbdaaGreatDoor
open Go.ChangeShapes Go.WideShapes Go.RowKit Go.Deep Fl
/-- a slice's values: none, or they lie in a block -/
def CS (w : World) (A : Option Addr) (l : List Value) : Prop := l = [] ∨ ∃ b o, A = some ⟨b, o, none⟩ ∧ b < w.heap.size ∧ ∀ j v : _, l[j]? = some v → w.cell? ⟨b, o + j, none⟩ = some v
section
variable {H : Type} {enc : TypeId × Value → H} {P : Program} {w : World} {r : Reach} {B0 : Nat}
theorem trod_float1 {k : FloatKind} {e : TypeId} {n : Nat} {v : Value} {y : DataW H × List MemPlace} (he : P.underlying e = some (.float k)) (h : DataW.trod enc P w 0 (fun _ => true) true n e [v] = some y) : ∃ x, v = .float k x ∧ (Lit.float k x).wf = true := by
  cases n with
  | zero => simp [DataW.trod] at h
  | succ n =>
    unfold DataW.trod at h
    rw [he] at h
    split at h <;> simp_all
/-- how long a slice is that is read -/
def LenD (d : DataW H) (c : Nat) : Prop := (d = .nil ∧ c = 0) ∨ ∃ es sp : List (DataW H), d = .slice es sp ∧ es.length + sp.length = c
theorem open_cells {t e : TypeId} {v : Value} {d : DataW H} {p : List MemPlace} (ht : P.underlying t = some (.slice e)) (hc : P.cellsOf e = 1) (hv : Value.okWide P w r B0 t v) (h : DataW.Trod enc P w 0 (fun _ => true) true t v d p) :
    ∃ (A : Option Addr) (l : List Value) (c : Nat), v = .slice A l.length c ∧ CS w A l ∧ l.length ≤ c ∧ c ≤ maxLen ∧ LenD d c ∧ (∀ u ∈ l, ∃ (n : Nat) (y : DataW H × List MemPlace), DataW.trod enc P w 0 (fun _ => true) true n e [u] = some y) ∧ (A = none → c = 0) := by
  obtain ⟨A, len, cap, rfl⟩ := okWide_slice ht hv
  obtain ⟨fuel, hf⟩ := h
  rcases open_slice1 ht hc hf with ⟨h1, h2⟩ | ⟨a, len', cap', m, n, V, D, Pl, h1, _, hl, hm, hmm, h2, hx⟩
  · simp [Value.cells] at h1
    obtain ⟨rfl, rfl, rfl⟩ := h1
    simp only [Prod.mk.injEq] at h2
    exact ⟨none, [], 0, rfl, .inl rfl, Nat.le_refl _, Nat.zero_le _, .inl ⟨h2.1, rfl⟩, (fun u hu => by cases hu), fun _ => rfl⟩
  · simp [Value.cells] at h1
    obtain ⟨rfl, rfl, rfl⟩ := h1
    simp only [if_true] at hmm
    subst hmm
    simp only [Prod.mk.injEq] at h2
    refine ⟨some a, (List.range len).map V, m, by rw [List.length_map, List.length_range], ?_, by rw [List.length_map, List.length_range]; exact hl, hm, .inr ⟨_, _, h2.1, by rw [List.length_map, List.length_map, List.length_range, List.length_range]; omega⟩, ?_, fun h => by cases h⟩
    · by_cases h0 : len = 0
      · left; rw [h0]; rfl
      · right
        obtain ⟨b, o, s⟩ := a
        have hs : s = none := by simpa [Addr.add] using World.cell?_spot (hx 0 (by omega)).1
        subst hs
        have hadd : ∀ j, (⟨b, o, none⟩ : Addr).add j = ⟨b, o + j, none⟩ := fun j => by
          unfold Addr.add; split
          · rename_i h; rw [h]; rfl
          · rfl
        refine ⟨b, o, rfl, ?_, fun j v hj => ?_⟩
        · have := (hx 0 (by omega)).1
          rw [hadd] at this
          exact World.block_lt_of_cell? w _ this
        · rw [List.getElem?_map, Option.map_eq_some_iff] at hj
          obtain ⟨i, hi, rfl⟩ := hj
          have hi1 := (List.getElem?_eq_some_iff.1 hi)
          obtain ⟨hlt, e⟩ := hi1
          rw [List.length_range] at hlt
          rw [List.getElem_range] at e
          subst e
          have := (hx j (by omega)).1
          rwa [hadd] at this
    · intro u hu
      obtain ⟨i, hi, rfl⟩ := List.mem_map.1 hu
      exact ⟨n, _, (hx i (by have := List.mem_range.1 hi; omega)).2⟩
theorem all_of {α : Type} (f : α → Value) (Q : α → Prop) (l : List Value) (h : ∀ v ∈ l, ∃ x, v = f x ∧ Q x) : ∃ xs : List α, l = xs.map f ∧ ∀ x ∈ xs, Q x := by
  induction l with
  | nil => exact ⟨[], rfl, fun x hx => by cases hx⟩
  | cons v r ih =>
    obtain ⟨x, rfl, hx⟩ := h v (List.mem_cons_self ..)
    obtain ⟨xs, rfl, hxs⟩ := ih fun u hu => h u (List.mem_cons_of_mem _ hu)
    exact ⟨x :: xs, rfl, fun y hy => by
      rcases List.mem_cons.1 hy with rfl | hy
      · exact hx
      · exact hxs y hy⟩
end
theorem CS.below {w w' : World} {A : Option Addr} {l : List Value} (h : CS w A l) (hb : Below w.heap.size w w') : CS w' A l := by
  rcases h with h | ⟨b, o, h1, h2, h3⟩
  · exact .inl h
  · exact .inr ⟨b, o, h1, Nat.lt_of_lt_of_le h2 hb.size, fun j x hj => (hb.cell (p := ⟨b, o + j, none⟩) h2).trans (h3 j x hj)⟩
theorem CS.at {w : World} {A : Option Addr} {l : List Value} (h : CS w A l) {k : Nat} {x : Value} (hk : l[k]? = some x) : ∃ b o, A = some ⟨b, o, none⟩ ∧ b < w.heap.size ∧ w.cell? ⟨b, o + k, none⟩ = some x := by
  rcases h with h | ⟨b, o, h1, h2, h3⟩
  · rw [h] at hk; cases hk
  · exact ⟨b, o, h1, h2, h3 k x hk⟩
def fL (xs : List Nat) : List Value := xs.map (Value.float .f64)
theorem U_wf' {x : Nat} (h : (Lit.float .f64 x).wf = true) : U x := by
  unfold U
  simpa [Lit.wf] using h
set_option maxRecDepth 100000 in
theorem open_fl22 {H : Type} {enc : TypeId × Value → H} {w : World} {r : Reach} {B0 : Nat} {v : Value} {d : DataW H} {p : List MemPlace} (hv : Value.okWide Tryz.prog w r B0 22 v) (h : DataW.Trod enc Tryz.prog w 0 (fun _ => true) true 22 v d p) :
    ∃ (A : Option Addr) (xs : List Nat) (c : Nat), v = .slice A xs.length c ∧ CS w A (fL xs) ∧ xs.length ≤ maxLen ∧ ∀ x ∈ xs, U x := by
  obtain ⟨A, l, c, rfl, h1, h2, h3, -, h4, -⟩ := open_cells Tryz.underlying22 (by kernel_rfl) hv h
  obtain ⟨xs, rfl, hx⟩ := all_of (Value.float .f64) U l (fun u hu => by
    obtain ⟨n, y, hy⟩ := h4 u hu
    obtain ⟨x, rfl, hw⟩ := trod_float1 Tryz.underlying31 hy
    exact ⟨x, rfl, U_wf' hw⟩)
  rw [List.length_map] at h2 ⊢
  exact ⟨A, xs, c, rfl, h1, by omega, hx⟩
end Go.Proofs.YtlgencbldbpbdaaGreatDoor
