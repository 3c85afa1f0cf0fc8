/- galleyref03: of, tens, twos. galleyref03.twos. galleyref03.compare. -/
import Derived.Test.YtlgencbldbpbdaaGreatDoorMgDhK
import Derived.Deep.Upon
namespace Go.Proofs.YtlgencbldbpbdaaGreatDoor.R
open Go.RowKit Fl
end Go.Proofs.YtlgencbldbpbdaaGreatDoor.R

namespace Go.Proofs.YtlgencbldbpbdaaGreatDoor.R
open Go.RowKit Fl
theorem OU.below {w w' : World} {B : Nat} {v : Value} {l : List Nat} (h : OU w B v l) (hb : Below w.heap.size w w') : OU w' B v l := by
  obtain ⟨h1, h2⟩ := h
  refine ⟨h1, ?_⟩
  rcases h2 with h2 | ⟨g, cap, cur, e, h3, h4, h5⟩
  · exact .inl h2
  · exact .inr ⟨g, cap, cur, e, h3, (hb.block _ (Array.getElem?_eq_some_iff.1 h4).1).trans h4, h5⟩
end Go.Proofs.YtlgencbldbpbdaaGreatDoor.R

namespace Go.Proofs.YtlgencbldbpbdaaGreatDoor.R
open Go.RowKit Fl
theorem val_split (l : List Nat) (k : Nat) : val l = val (l.take k) + BB ^ (l.take k).length * val (l.drop k) := by
  rw [← val_append, List.take_append_drop]
theorem cmp_at {a b : List Nat} (ha : W64 a) {i x y : Nat} (hx : a[i]? = some x) (hy : b[i]? = some y) (hxy : x < y) (hd : a.drop (i + 1) = b.drop (i + 1)) : val a < val b := by
  have la : i < a.length := (List.getElem?_eq_some_iff.1 hx).1
  have lb : i < b.length := (List.getElem?_eq_some_iff.1 hy).1
  rw [val_split a (i + 1), val_split b (i + 1), hd]
  have e1 : (a.take (i + 1)).length = i + 1 := by rw [List.length_take]; omega
  have e2 : (b.take (i + 1)).length = i + 1 := by rw [List.length_take]; omega
  rw [e1, e2, val_take_succ la, val_take_succ lb]
  have g1 : a.getD i 0 = x := by rw [List.getD, hx]; rfl
  have g2 : b.getD i 0 = y := by rw [List.getD, hy]; rfl
  rw [g1, g2]
  have h1 := val_lt (ha.take i)
  rw [List.length_take, Nat.min_eq_left (by omega)] at h1
  have h2 : BB ^ i * (x + 1) ≤ BB ^ i * y := Nat.mul_le_mul_left _ hxy
  rw [Nat.mul_add, Nat.mul_one] at h2
  omega
theorem drop_same {a b : List Nat} {i x : Nat} (hx : a[i]? = some x) (hy : b[i]? = some x) (hd : a.drop (i + 1) = b.drop (i + 1)) : a.drop i = b.drop i := by
  have la : i < a.length := (List.getElem?_eq_some_iff.1 hx).1
  have lb : i < b.length := (List.getElem?_eq_some_iff.1 hy).1
  rw [List.drop_eq_getElem_cons la, List.drop_eq_getElem_cons lb, hd, (List.getElem?_eq_some_iff.1 hx).2, (List.getElem?_eq_some_iff.1 hy).2]
end Go.Proofs.YtlgencbldbpbdaaGreatDoor.R
