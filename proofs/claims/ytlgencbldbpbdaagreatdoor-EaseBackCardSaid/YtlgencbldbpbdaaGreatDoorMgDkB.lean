/- How two rows of digits stand, and as what they are read. Plain laws. A text of a known shape, read as a figure. Plain laws. -/
import Derived.Test.YtlgencbldbpbdaaGreatDoorMgDjB
import Derived.Test.YtlgencbldbpbdaaGreatDoorMgDhL
namespace Go.Proofs.YtlgencbldbpbdaaGreatDoor
open Fl
/-- a row of digits with a figure's end behind it: what is read -/
theorem runD_app {a b : List Nat} (ha : DG a) : runD (a ++ b) = a.length + runD b := by
  induction a with
  | nil => rw [List.nil_append, List.length_nil, Nat.zero_add]
  | cons x a ih =>
    rw [List.cons_append, runD, if_pos (ha x List.mem_cons_self), ih (fun y hy => ha y (List.mem_cons_of_mem _ hy)), List.length_cons]
    omega
end Go.Proofs.YtlgencbldbpbdaaGreatDoor

namespace Go.Proofs.YtlgencbldbpbdaaGreatDoor
open Fl
/-- it begins with no digit -/
def NDg (r : List Nat) : Prop := runD r = 0
theorem ndg_nil : NDg [] := rfl
theorem ndg_cons {x : Nat} {r : List Nat} (h : ¬ (48 ≤ x ∧ x ≤ 57)) : NDg (x :: r) := by
  unfold NDg; rw [runD, if_neg h]
/-- a sign or none -/
def Sgn (s : List Nat) : Prop := s = [] ∨ s = [45]
theorem DG.head {W : List Nat} (h : DG W) (h0 : W ≠ []) : 48 ≤ W.getD 0 0 ∧ W.getD 0 0 ≤ 57 := by
  cases W with
  | nil => exact absurd rfl h0
  | cons x r => exact h x List.mem_cons_self
theorem at_sgn {S W R : List Nat} (hS : Sgn S) (hW : DG W) (h0 : W ≠ []) : fAt (S ++ W ++ R) = S.length := by
  have hh := hW.head h0
  have hl : 0 < W.length := List.length_pos_iff.2 h0
  rcases hS with rfl | rfl
  · unfold fAt
    rw [List.nil_append, getD_app_left hl, if_neg (by omega)]; rfl
  · unfold fAt
    rw [if_pos (.inr rfl)]; rfl
theorem wh_dg {S W R : List Nat} (hS : Sgn S) (hW : DG W) (h0 : W ≠ []) (hR : NDg R) : fWh (S ++ W ++ R) = W.length := by
  unfold fWh
  rw [at_sgn hS hW h0, List.append_assoc, List.drop_left, runD_app hW, hR, Nat.add_zero]
theorem get_rest {S W R : List Nat} : (S ++ W ++ R).getD (S.length + W.length) 0 = R.getD 0 0 := by
  rw [List.getD, List.getD, List.getElem?_append_right (by rw [List.length_append]; omega), List.length_append, Nat.sub_self]
theorem drop_rest {S W R : List Nat} : (S ++ W ++ R).drop (S.length + W.length) = R := by
  rw [← List.length_append, List.drop_left]
theorem neg_sgn {S W R : List Nat} (hS : Sgn S) (hW : DG W) (h0 : W ≠ []) : (S ++ W ++ R).getD 0 0 = 45 ↔ S = [45] := by
  have hh := hW.head h0
  have hl : 0 < W.length := List.length_pos_iff.2 h0
  rcases hS with rfl | rfl
  · rw [List.nil_append, getD_app_left hl]
    exact ⟨fun e => by omega, fun e => nomatch e⟩
  · exact ⟨fun _ => rfl, fun _ => rfl⟩
/-- no point: what is read -/
theorem shape_plain {S W R : List Nat} (hS : Sgn S) (hW : DG W) (h0 : W ≠ []) (hR : NDg R) (hp : R.getD 0 0 ≠ 46) :
    pW (S ++ W ++ R) = readF W (W.length + xI FAR R) + (if S = [45] then 9223372036854775808 else 0) ∧ pN (S ++ W ++ R) = S.length + W.length + xSz R ∧ pErr (S ++ W ++ R) = 0 := by
  have a := at_sgn (R := R) hS hW h0
  have b := wh_dg hS hW h0 hR
  have c : fFr (S ++ W ++ R) = 0 := fFr_zero (by rw [a, b, get_rest]; exact hp)
  have d : fDg (S ++ W ++ R) = W := by
    unfold fDg
    rw [a, b, c, List.append_assoc, List.drop_left, List.take_left, List.take_zero, List.append_nil]
  have t : fTo (S ++ W ++ R) = S.length + W.length := by
    unfold fTo
    rw [a, b, get_rest, if_neg (fun e => hp e.1)]
  refine ⟨?_, ?_, ?_⟩
  · unfold pW
    rw [d, if_neg h0, b, t, drop_rest]
    congr 1
    by_cases e : S = [45]
    · rw [if_pos e, if_pos ((neg_sgn hS hW h0).2 e)]
    · rw [if_neg e, if_neg (fun k => e ((neg_sgn hS hW h0).1 k))]
  · unfold pN
    rw [d, if_neg h0, t, drop_rest]
  · unfold pErr
    rw [d, if_neg h0]
/-- a point and digits behind it -/
theorem shape_point {S W F R : List Nat} (hS : Sgn S) (hW : DG W) (h0 : W ≠ []) (hF : DG F) (hR : NDg R) :
    pW (S ++ W ++ 46 :: (F ++ R)) = readF (W ++ F) (W.length + xI FAR R) + (if S = [45] then 9223372036854775808 else 0) ∧ pN (S ++ W ++ 46 :: (F ++ R)) = S.length + W.length + 1 + F.length + xSz R ∧ pErr (S ++ W ++ 46 :: (F ++ R)) = 0 := by
  obtain ⟨G, hG⟩ : ∃ G, G = 46 :: (F ++ R) := ⟨_, rfl⟩
  have nG : NDg G := by rw [hG]; exact ndg_cons (by omega)
  rw [← hG]
  have a := at_sgn (R := G) hS hW h0
  have b := wh_dg hS hW h0 nG
  have g46 : G.getD 0 0 = 46 := by rw [hG]; rfl
  have dr : (S ++ W ++ G).drop (S.length + W.length + 1) = F ++ R := by
    rw [← List.drop_drop, drop_rest, hG]; rfl
  have c : fFr (S ++ W ++ G) = F.length := by
    unfold fFr
    rw [a, b, get_rest, if_pos g46, dr, runD_app hF, hR, Nat.add_zero]
  have d : fDg (S ++ W ++ G) = W ++ F := by
    unfold fDg
    rw [a, b, c, dr, List.take_left, List.append_assoc, List.drop_left, List.take_left]
  have wp : 0 < W.length := List.length_pos_iff.2 h0
  have t : fTo (S ++ W ++ G) = S.length + W.length + 1 + F.length := by
    unfold fTo
    rw [a, b, c, get_rest, if_pos ⟨g46, by omega⟩]
  have dt : (S ++ W ++ G).drop (S.length + W.length + 1 + F.length) = R := by
    rw [← List.drop_drop, dr, List.drop_left]
  have ne : W ++ F ≠ [] := fun e => h0 (List.append_eq_nil_iff.1 e).1
  refine ⟨?_, ?_, ?_⟩
  · unfold pW
    rw [d, if_neg ne, b, t, dt]
    congr 1
    by_cases e : S = [45]
    · rw [if_pos e, if_pos ((neg_sgn hS hW h0).2 e)]
    · rw [if_neg e, if_neg (fun k => e ((neg_sgn hS hW h0).1 k))]
  · unfold pN
    rw [d, if_neg ne, t, dt]
  · unfold pErr
    rw [d, if_neg ne]
/-- no exponent -/
theorem no_exp {R : List Nat} (h : R.getD 0 0 ≠ 101 ∧ R.getD 0 0 ≠ 69) : xI FAR R = 0 ∧ xSz R = 0 := by
  have e : xN R = 0 := by unfold xN; rw [if_neg (by omega)]
  constructor
  · unfold xI xV
    rw [e, List.take_zero, show dval [] = 0 from rfl, Nat.min_zero]
    split <;> rfl
  · unfold xSz; rw [if_pos e]
/-- an exponent with a sign -/
theorem an_exp {X R : List Nat} {s : Nat} (hs : s = 43 ∨ s = 45) (hX : DG X) (h0 : X ≠ []) (hR : NDg R) (hf : dval X ≤ FAR) :
    xI FAR (101 :: s :: (X ++ R)) = (if s = 45 then -(dval X : Int) else (dval X : Int)) ∧ xSz (101 :: s :: (X ++ R)) = 2 + X.length := by
  have a : xAt (101 :: s :: (X ++ R)) = 2 := by unfold xAt; rw [if_pos (by exact hs)]
  have xp : 0 < X.length := List.length_pos_iff.2 h0
  have b : xN (101 :: s :: (X ++ R)) = X.length := by
    unfold xN
    rw [if_pos (.inl rfl), a, show (101 :: s :: (X ++ R)).drop 2 = X ++ R from rfl, runD_app hX, hR, Nat.add_zero]
  have c : xV (101 :: s :: (X ++ R)) = dval X := by
    unfold xV
    rw [a, b, show (101 :: s :: (X ++ R)).drop 2 = X ++ R from rfl, List.take_left]
  constructor
  · unfold xI
    rw [c, Nat.min_eq_right hf]
    rfl
  · unfold xSz
    rw [b, if_neg (by omega), a]
end Go.Proofs.YtlgencbldbpbdaaGreatDoor
