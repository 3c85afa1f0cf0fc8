/- An Acc's forty words: plus, negative. -/
import Derived.Test.YtlgencbldbpbdaaGreatDoorMgBase
import Derived.Test.YtlgencbldbpbdaaGreatDoorMgDhD
import Derived.Deep.MidRow
import Derived.RegionTactic
import Derived.BigRegion
import Derived.ChangeAlike
import Derived.Outline
namespace Go.Proofs.YtlgencbldbpbdaaGreatDoor
open Go.RowKit Fl
def WL (z : Int) : List Value := (List.range 40).map fun i => .int .u64 (wd z i)
theorem WL_len (z : Int) : (WL z).length = 40 := by simp [WL]
theorem WL_get (z : Int) (i : Nat) (h : i < 40) : (WL z)[i]? = some (.int .u64 (wd z i)) := by simp [WL, h]
def Row (w : World) (b : Nat) (f : Nat → Int) : Prop := ∀ j, j < 40 → w.cell? ⟨b, j, none⟩ = some (.int .u64 (f j)) ∧ w.frozen? ⟨b, j, none⟩ = false
theorem Row.below {w w' : World} {b : Nat} {f : Nat → Int} (h : Row w b f) {B : Nat} (hb : Below B w w') (hB : b < B) : Row w' b f := fun j hj => by
 rw [hb.cell (p := ⟨b, j, none⟩) hB, hb.frozen (p := ⟨b, j, none⟩) hB]; exact h j hj
theorem Row.set {w : World} {b : Nat} {f : Nat → Int} (h : Row w b f) (k : Nat) (hk : k < 40) (v : Int) : Row (w.setCell ⟨b, k, none⟩ (.int .u64 v)) b (fun j => if j = k then v else f j) := by
 intro j hj
 obtain ⟨h1, h2⟩ := h j hj
 refine ⟨?_, ?_⟩
 ·show (w.setCell ⟨b, k, none⟩ (.int .u64 v)).cell? ⟨b, j, none⟩ = some (.int .u64 (if j = k then v else f j))
  by_cases e : j = k
  ·subst e
   rw [if_pos rfl]
   exact World.cell?_setCell_same w _ _ h1
  ·rw [if_neg e, World.cell?_setCell_other w _ _ _ (by intro h; cases h; exact e rfl)]; exact h1
 ·rw [World.frozen?_setCell]; exact h2
theorem Row.drew {w : World} {b : Nat} {f : Nat → Int} (h : Row w b f) : Row w.drew b f := fun j hj => h j hj
theorem Row.other {w : World} {b : Nat} {f : Nat → Int} (h : Row w b f) (p : Addr) (v : Value) (hp : p.block ≠ b) : Row (w.setCell p v) b f := fun j hj => by
 refine ⟨?_, ?_⟩
 ·rw [World.cell?_setCell_other w _ _ _ (by intro h; subst h; exact hp rfl)]; exact (h j hj).1
 ·rw [World.frozen?_setCell]; exact (h j hj).2
theorem Row.range {w : World} {b : Nat} {z : Int} (h : Row w b (wd z)) : w.rangeAt b 0 (WL z) := fun j v hv => by
 have hj : j < 40 := by have := (List.getElem?_eq_some_iff.1 hv).1; rw [WL_len] at this; exact this
 rw [WL_get z j hj] at hv
 cases hv
 rw [Nat.zero_add]; exact (h j hj).1
theorem Row.there {w : World} {b : Nat} {f : Nat → Int} (h : Row w b f) {n : Nat} (hn : n = 40) : w.there b 0 n := fun j hj => by
 rw [Nat.zero_add, (h j (by omega)).1, (h j (by omega)).2]; exact ⟨rfl, rfl⟩
theorem below_setCells {B : Nat} {a w : World} (h : Below B a w) {b : Nat} (hb : B ≤ b) (o : Nat) (vs : List Value) : Below B a (w.setCells b o vs) := by
 induction vs generalizing o w with
 | nil => exact h
 | cons v r ih => rw [World.setCells]; exact ih (h.setCell hb v) (o + 1)
theorem results_cell1 {P : Program} {fn : Func} {p : Tmp} {ty : TypeId} (h : fn.results = #[.cell p ty]) {tmps : Array Value} {a : Addr} (hp : tmps.getD p undef = .pointer (some a)) {w : World} {v : Value}
  (hl : (loadVar ty a).run P w = .ok v w) : (results fn tmps).run P w = .ok v w := by
 have hp' : tmps[p]?.getD undef = .pointer (some a) := by simpa using hp
 simp [results, h, hp', asAddr, hl]
theorem Row.congr {w : World} {b : Nat} {f g : Nat → Int} (h : Row w b f) (e : ∀ j, j < 40 → f j = g j) : Row w b g := fun j hj => by rw [← e j hj]; exact h j hj
def sub64Entry : Array Value → Sem Value := fun args => do
 let (x, y, b) ← Extern.MathBitsCarry.three "Sub64" args
 pure (Extern.MathBitsCarry.pair ((x + Extern.MathBitsCarry.m64 - y - b) % Extern.MathBitsCarry.m64) (if x < y + b then 1 else 0))
end Go.Proofs.YtlgencbldbpbdaaGreatDoor
