/- The walk of SumsWhole. -/
import Derived.Test.YtedkbjimofiphaaOpenF
import Derived.Test.YtedkbjimofiphaaMgRpB
import Derived.Deep.CutBlock
import Derived.Deep.DeepCutAuto
namespace Go.Proofs.Ytedkbjimofiphaa
open Go.RowKit Fl

theorem CS.below {w w' : World} {A : Option Addr} {l : List Value} (h : CS w A l) (hb : Below w.heap.size w w') : CS w' A l := by
  rcases h with h | ⟨b, o, h1, h2, h3⟩
  · exact .inl h
  · exact .inr ⟨b, o, h1, Nat.lt_of_lt_of_le h2 hb.size, fun j v hj => (hb.cell (p := ⟨b, o + j, none⟩) h2).trans (h3 j v hj)⟩
theorem CS.at_ {w : World} {A : Option Addr} {l : List Value} {k : Nat} {v : Value} (h : CS w A l) (hk : l[k]? = some v) : ∃ b o, A = some ⟨b, o, none⟩ ∧ w.cell? ⟨b, o + k, none⟩ = some v := by
  rcases h with rfl | ⟨b, o, h1, _, h3⟩
  · simp at hk
  · exact ⟨b, o, h1, h3 k v hk⟩
theorem float_int (n : Int) : floatOfInt .f64 n = wz (n * ONEi) false := by
  show Ieee.double.nearest (decide (n < 0)) n.natAbs 0 = _
  rw [nearest_int]
  unfold wz ONEi
  rw [Int.natAbs_mul, Int.natAbs_natCast, Bool.and_false, Bool.or_false]
  have := one_pos
  congr 1
  rw [decide_eq_decide]
  refine ⟨fun h => ?_, fun h => ?_⟩
  · have h2 := Int.mul_lt_mul_of_pos_right h (show (0 : Int) < (ONE : Int) by omega)
    rwa [Int.zero_mul] at h2
  · by_cases h3 : n < 0
    · exact h3
    · have h3 : 0 ≤ n := by omega
      have := Int.mul_nonneg h3 (show (0 : Int) ≤ (ONE : Int) by omega)
      omega
/-- the number that is appended in round k -/
def elW (zs : List Int) (cs : List Bool) (k : Nat) : Wn := (zs.getD k 0, decide (zs.getD k 0 = 0) && cs.getD k false)
def Wl (zs : List Int) (cs : List Bool) (k : Nat) : List Wn := (List.range k).map (elW zs cs)
theorem Wl_len (zs : List Int) (cs : List Bool) (k : Nat) : (Wl zs cs k).length = k := by simp [Wl]
theorem Wl_succ (zs : List Int) (cs : List Bool) (k : Nat) : Wl zs cs (k + 1) = Wl zs cs k ++ [elW zs cs k] := by simp [Wl, List.range_succ]
theorem mulW_le (l : List Wn) (h : ∀ a ∈ l, a.1.natAbs ≤ 2147483648) : mulW l ≤ l.length * 2147483648 := by
  induction l with
  | nil => simp [mulW]
  | cons a r ih =>
    have h1 := h a (List.mem_cons_self ..)
    have h2 := ih fun b hb => h b (List.mem_cons_of_mem _ hb)
    unfold mulW at *
    rw [List.map_cons, List.sum_cons, List.length_cons]
    omega
theorem whole_law (zs : List Int) (cs : List Bool) (k : Nat) (hk : k ≤ 1048576) (hz : ∀ z ∈ zs, z.natAbs ≤ 2147483648) :
    mulW (Wl zs cs k) ≤ B53 := by
  have h := mulW_le (Wl zs cs k) (fun a ha => by
    obtain ⟨j, _, rfl⟩ := List.mem_map.1 ha
    show (zs.getD j 0).natAbs ≤ _
    rw [List.getD_eq_getElem?_getD]
    cases hj : zs[j]? with
    | none => simp
    | some z => exact hz z (List.mem_of_getElem? hj))
  rw [Wl_len] at h
  unfold B53
  omega
theorem wnt_neg : wnt (0, true) = Op.negFloat .f64 (floatOfInt .f64 0) := by decide +kernel
theorem wnt_pos (z : Int) : wnt (z, false) = floatOfInt .f64 z := (float_int z).symm
theorem fs_of_row {w : World} {B k : Nat} {v : Value} {m : List Nat} (h : w.ownsRow B 31 1 v k (m.map (Value.float .f64))) (hU : ∀ x ∈ m, U x) : ∃ A c, v = .slice A m.length c ∧ FS w A m ∧ m.length ≤ c := by
  have hl : m.length = k := by have := h.1; rw [List.length_map, Nat.mul_one] at this; exact this
  rcases h.2 with ⟨hv, h0⟩ | ⟨g, cap, cur, hv, _, hg, hc, _⟩
  · subst h0
    have : m = [] := List.eq_nil_of_length_eq_zero hl
    subst this
    exact ⟨none, 0, hv, .inl rfl, Nat.le_refl _⟩
  · rw [hl]
    refine ⟨some ⟨g, 0, none⟩, cap, hv, ?_, hc⟩
    subst hv
    by_cases h0 : k = 0
    · left; exact List.eq_nil_of_length_eq_zero (by omega)
    · refine .inr ⟨g, 0, rfl, ⟨fun j x hj => ?_, fun j x hj => hU x (List.mem_of_getElem? hj), ?_⟩⟩
      · have hj' : j < k := by rw [← hl]; exact (List.getElem?_eq_some_iff.1 hj).1
        rw [Nat.zero_add, World.ownsRow.cellAt h j (by omega), List.getElem?_map, hj]; rfl
      · rcases Nat.lt_or_ge g w.heap.size with h1 | h1
        · exact h1
        · rw [Array.getElem?_eq_none h1] at hg; cases hg
theorem new_cell (w : World) (v : Value) : ∀ (j : Nat) (u : Value), [v][j]? = some u → (w.alloc (.cells #[v] 31)).cell? ((⟨w.heap.size, 0, none⟩ : Addr).add j) = some u := by
  intro j u hu
  cases j with
  | zero =>
    simp only [List.getElem?_cons_zero, Option.some.injEq] at hu
    subst hu
    exact (World.cell?_alloc_new w #[v] 31 0).trans rfl
  | succ j => simp at hu
theorem row_next {w : World} {B k u : Nat} {v : Value} {zs : List Int} {cs : List Bool} (h : w.ownsRow B 31 1 v (k + 1) ((Wl zs cs k).map (Value.float .f64 ∘ wnt) ++ [.float .f64 u])) (hu : u = wnt (elW zs cs k)) :
    w.ownsRow B 31 1 v (k + 1) (((Wl zs cs (k + 1)).map wnt).map (Value.float .f64)) := by
  subst hu
  rw [Wl_succ, List.map_append, List.map_append, List.map_map]
  exact h
theorem grown_below {w wc w2 : World} {o : Obj} {B e size n : Nat} {v : Value} {xs : List Value} (hB : Below B w wc) (hown : wc.ownsRow B e size v n xs) (hs : B ≤ wc.heap.size) (hg : (wc.alloc o).grownBy w2 v.ownBlock) : Below B w w2 :=
  (hB.alloc hs o).grown hg (by simp; omega) fun g hgk => by
    rcases hown.2 with ⟨rfl, _⟩ | ⟨g', cap, cur, rfl, hb, _⟩
    · simp [Value.ownBlock] at hgk
    · simp [Value.ownBlock] at hgk; omega
theorem c23N (A : Option Addr) (c : Nat) (l : List Nat) (n : Nat) (w : World) (hn : l.length = n) (h : FS w A l) (hl : n < 4611686018427387904) :
    Calls Try.prog 43 #[.slice A n c] w fun e w' => RetF (pV (accS l)) e ∧ Below w.heap.size w w' := by subst hn; exact c23F A c l w h hl
theorem U_wnt (a : Wn) : U (wnt a) := U_wz _ _

end Go.Proofs.Ytedkbjimofiphaa
