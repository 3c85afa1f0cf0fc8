/- Pairs. Held and Pairs of no numbers; the head of all statements of layer 2: 'awake' answers true. -/
import Derived.Test.YtedkbjimofiphaaMgAccH
import Derived.Test.YtedkbjimofiphaaMgSumP
namespace Go.Proofs.Ytedkbjimofiphaa
open Go.RowKit Fl

theorem FL.take {w : World} {b o : Nat} {l : List Nat} (h : FL w b o l) (k : Nat) : FL w b o (l.take k) :=
  ⟨fun j x hj => h.cell j x (by rw [List.getElem?_take] at hj; split at hj; exact hj; cases hj), fun j x hj => h.u j x (by rw [List.getElem?_take] at hj; split at hj; exact hj; cases hj), h.lt⟩
theorem FL.drop {w : World} {b o : Nat} {l : List Nat} (h : FL w b o l) (k : Nat) : FL w b (o + k) (l.drop k) :=
  ⟨fun j x hj => by rw [Nat.add_assoc]; exact h.cell (k + j) x (by rw [List.getElem?_drop] at hj; exact hj), fun j x hj => h.u (k + j) x (by rw [List.getElem?_drop] at hj; exact hj), h.lt⟩
def RetV (p : Int) (v : Value) : Prop := ∃ r, v = .float .f64 r ∧ U r ∧ pl r = p

def pairsG (b o c : Nat) (l : List Nat) (_f : FuncId) (args : Array Value) (v : Value) : Prop :=
  (args = #[.slice (some ⟨b, o, none⟩) (l.length / 2) c] → RetV (pairsP (l.take (l.length / 2))) v) ∧
  (args = #[.slice (some ⟨b, o + l.length / 2, none⟩) (l.length - l.length / 2) (c - l.length / 2)] → RetV (pairsP (l.drop (l.length / 2))) v)
end Go.Proofs.Ytedkbjimofiphaa

namespace Go.Proofs.Ytedkbjimofiphaa
open Go.RowKit Fl

/-- the block of a slice that is laid -/
theorem FL_new (w : World) (l : List Nat) (h : ∀ x ∈ l, U x) : FL (w.alloc (.cells (l.map (Value.float .f64)).toArray 31)) w.heap.size 0 l :=
  ⟨fun j x hj => by
    rw [Nat.zero_add, World.cell?_alloc_new w _ 31 j, List.getElem?_toArray, List.getElem?_map, hj]; rfl,
   fun j x hj => h x (List.mem_of_getElem? hj), by simp⟩
theorem word_of_place {x y : Nat} (hx : U x) (hy : U y) (h : pl x = pl y) (hn : isN y = false) : x = y := by
  rcases (pl_eq_iff hx hy).1 h with h | h
  · exact h
  · rw [hn] at h; exact absurd h.2 Bool.false_ne_true
def awakeL : List Nat := [6103021453049119613, 4607182418800017408, 15326393489903895421]
end Go.Proofs.Ytedkbjimofiphaa
