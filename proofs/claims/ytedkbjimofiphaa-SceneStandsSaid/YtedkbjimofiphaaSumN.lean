/- The walk of SumsWhole. -/
import Derived.Test.YtedkbjimofiphaaOpenF
import Derived.Test.YtedkbjimofiphaaMgRpB
import Derived.Deep.CutBlock
import Derived.Deep.DeepCutAuto
namespace Go.Proofs.Ytedkbjimofiphaa
open Go.RowKit Fl
theorem CS.below {w w' : World} {A : Option Addr} {l : List Value} (h : CS w A l) (hb : Below w.heap.size w w') : CS w' A l := by
  rcases h with h | ⟨b, o, h1, h2, h3⟩
  · exact .inl h
  · exact .inr ⟨b, o, h1, Nat.lt_of_lt_of_le h2 hb.size, fun j v hj => (hb.cell (p := ⟨b, o + j, none⟩) h2).trans (h3 j v hj)⟩
theorem CS.at_ {w : World} {A : Option Addr} {l : List Value} {k : Nat} {v : Value} (h : CS w A l) (hk : l[k]? = some v) : ∃ b o, A = some ⟨b, o, none⟩ ∧ w.cell? ⟨b, o + k, none⟩ = some v := by
  rcases h with rfl | ⟨b, o, h1, _, h3⟩
  · simp at hk
  · exact ⟨b, o, h1, h3 k v hk⟩
theorem c23N (A : Option Addr) (c : Nat) (l : List Nat) (n : Nat) (w : World) (hn : l.length = n) (h : FS w A l) (hl : n < 4611686018427387904) :
    Calls Try.prog 43 #[.slice A n c] w fun e w' => RetF (pV (accS l)) e ∧ Below w.heap.size w w' := by subst hn; exact c23F A c l w h hl
end Go.Proofs.Ytedkbjimofiphaa
