/- An Acc: its state, New. -/
import Derived.Test.YthohhepoddnbnaaGreatDoorAcc
import Derived.Deep.DeepCutAuto
import Derived.Deep.CutBlock
import Derived.Outline
import Derived.Test.YthohhepoddnbnaaGreatDoorArith
namespace Go.Proofs.YthohhepoddnbnaaGreatDoor
open Go.RowKit Fl

/-- what an Acc holds -/
structure AS where
  z : Int
  nan : Bool
  pos : Bool
  neg : Bool
  any : Bool
def AS.zero : AS := ⟨0, false, false, false, false⟩
structure AccAt (w : World) (b : Nat) (s : AS) : Prop where
  row : Row w b (wd s.z)
  c0 : w.cell? ⟨b, 40, none⟩ = some (.bool s.nan)
  c1 : w.cell? ⟨b, 41, none⟩ = some (.bool s.pos)
  c2 : w.cell? ⟨b, 42, none⟩ = some (.bool s.neg)
  c3 : w.cell? ⟨b, 43, none⟩ = some (.bool s.any)
  f0 : w.frozen? ⟨b, 40, none⟩ = false
  f1 : w.frozen? ⟨b, 41, none⟩ = false
  f2 : w.frozen? ⟨b, 42, none⟩ = false
  f3 : w.frozen? ⟨b, 43, none⟩ = false
/-- only block b is another -/
structure Only (b : Nat) (w w' : World) : Prop where
  os : w'.os = w.os
  tape : w'.tape = w.tape
  output : w'.output = w.output
  size : w.heap.size ≤ w'.heap.size
  block : ∀ k, k < w.heap.size → k ≠ b → w'.heap[k]? = w.heap[k]?
theorem Only.of_below {b : Nat} {w w' : World} (h : Below w.heap.size w w') : Only b w w' := ⟨h.os, h.tape, h.output, h.size, fun k hk _ => h.block k hk⟩
theorem Only.trans {b : Nat} {w w1 w2 : World} (h : Only b w w1) (k : Only b w1 w2) : Only b w w2 :=
  ⟨k.os.trans h.os, k.tape.trans h.tape, k.output.trans h.output, Nat.le_trans h.size k.size, fun i hi hb => (k.block i (Nat.lt_of_lt_of_le hi h.size) hb).trans (h.block i hi hb)⟩
theorem Only.below {B b : Nat} {a w w' : World} (h : Only b w w') (hB : B ≤ b) (hs : B ≤ w.heap.size) (k : Below B a w) : Below B a w' :=
  k.trans ⟨h.os, h.tape, h.output, h.size, fun i hi => h.block i (by omega) (by omega)⟩
theorem Only.setCell {b o : Nat} {w w' : World} (h : Only b w w') (v : Value) : Only b w (w'.setCell ⟨b, o, none⟩ v) :=
  ⟨h.os, h.tape, h.output, by simpa [World.setCell] using h.size, fun k hk hne => (Below.heap_setCell _ _ _ _ hne).trans (h.block k hk hne)⟩
theorem Only.setCells {b : Nat} {w w' : World} (h : Only b w w') (o : Nat) (vs : List Value) : Only b w (w'.setCells b o vs) := by
  induction vs generalizing o w' with
  | nil => exact h
  | cons v r ih => rw [World.setCells]; exact ih (h.setCell v) (o + 1)
theorem Only.fresh {b c o : Nat} {w w' : World} (h : Only b w w') (hc : w.heap.size ≤ c) (v : Value) : Only b w (w'.setCell ⟨c, o, none⟩ v) :=
  ⟨h.os, h.tape, h.output, by simpa [World.setCell] using h.size, fun k hk hne => (Below.heap_setCell _ _ _ _ (show k ≠ c by omega)).trans (h.block k hk hne)⟩
theorem Only.below_fresh {b : Nat} {w w1 w2 : World} (h : Only b w w1) (k : Below w.heap.size w1 w2) : Only b w w2 :=
  ⟨k.os.trans h.os, k.tape.trans h.tape, k.output.trans h.output, Nat.le_trans h.size k.size, fun i hi hb => (k.block i hi).trans (h.block i hi hb)⟩
theorem AccAt.below {w w' : World} {b B : Nat} {s : AS} (h : AccAt w b s) (hb : Below B w w') (hB : b < B) : AccAt w' b s :=
  ⟨h.row.below hb hB, (hb.cell (p := ⟨b, 40, none⟩) hB).trans h.c0, (hb.cell (p := ⟨b, 41, none⟩) hB).trans h.c1, (hb.cell (p := ⟨b, 42, none⟩) hB).trans h.c2, (hb.cell (p := ⟨b, 43, none⟩) hB).trans h.c3,
   (hb.frozen (p := ⟨b, 40, none⟩) hB).trans h.f0, (hb.frozen (p := ⟨b, 41, none⟩) hB).trans h.f1, (hb.frozen (p := ⟨b, 42, none⟩) hB).trans h.f2, (hb.frozen (p := ⟨b, 43, none⟩) hB).trans h.f3⟩
theorem AccAt.only {w w' : World} {b c : Nat} {s : AS} (h : AccAt w c s) (ho : Only b w w') (hc : c < w.heap.size) (hne : c ≠ b) : AccAt w' c s :=
  have e : ∀ o, w'.cell? ⟨c, o, none⟩ = w.cell? ⟨c, o, none⟩ := fun _ => World.cell?_of_block (w := w) (ho.block c hc hne)
  have f : ∀ o, w'.frozen? ⟨c, o, none⟩ = w.frozen? ⟨c, o, none⟩ := fun _ => World.frozen?_of_block (w := w) (ho.block c hc hne)
  ⟨fun j hj => ⟨(e j).trans (h.row j hj).1, (f j).trans (h.row j hj).2⟩, (e _).trans h.c0, (e _).trans h.c1, (e _).trans h.c2, (e _).trans h.c3, (f _).trans h.f0, (f _).trans h.f1, (f _).trans h.f2, (f _).trans h.f3⟩
theorem wd_zero (i : Nat) : wd 0 i = 0 := by unfold wd; rw [Int.zero_ediv]; rfl
theorem AccAt.set0 {w : World} {b : Nat} {s : AS} (h : AccAt w b s) (v : Bool) : AccAt (w.setCell ⟨b, 40, none⟩ (.bool v)) b { s with nan := v } := by
  have o : ∀ j, j ≠ 40 → (w.setCell ⟨b, 40, none⟩ (.bool v)).cell? ⟨b, j, none⟩ = w.cell? ⟨b, j, none⟩ := fun j hj => World.cell?_setCell_other w _ _ _ (by intro h; cases h; exact hj rfl)
  exact ⟨fun j hj => ⟨(o j (by omega)).trans (h.row j hj).1, (World.frozen?_setCell ..).trans (h.row j hj).2⟩, World.cell?_setCell_same w _ _ h.c0, (o 41 (by omega)).trans h.c1, (o 42 (by omega)).trans h.c2, (o 43 (by omega)).trans h.c3,
    (World.frozen?_setCell ..).trans h.f0, (World.frozen?_setCell ..).trans h.f1, (World.frozen?_setCell ..).trans h.f2, (World.frozen?_setCell ..).trans h.f3⟩
theorem AccAt.set1 {w : World} {b : Nat} {s : AS} (h : AccAt w b s) (v : Bool) : AccAt (w.setCell ⟨b, 41, none⟩ (.bool v)) b { s with pos := v } := by
  have o : ∀ j, j ≠ 41 → (w.setCell ⟨b, 41, none⟩ (.bool v)).cell? ⟨b, j, none⟩ = w.cell? ⟨b, j, none⟩ := fun j hj => World.cell?_setCell_other w _ _ _ (by intro h; cases h; exact hj rfl)
  exact ⟨fun j hj => ⟨(o j (by omega)).trans (h.row j hj).1, (World.frozen?_setCell ..).trans (h.row j hj).2⟩, (o 40 (by omega)).trans h.c0, World.cell?_setCell_same w _ _ h.c1, (o 42 (by omega)).trans h.c2, (o 43 (by omega)).trans h.c3,
    (World.frozen?_setCell ..).trans h.f0, (World.frozen?_setCell ..).trans h.f1, (World.frozen?_setCell ..).trans h.f2, (World.frozen?_setCell ..).trans h.f3⟩
theorem AccAt.set2 {w : World} {b : Nat} {s : AS} (h : AccAt w b s) (v : Bool) : AccAt (w.setCell ⟨b, 42, none⟩ (.bool v)) b { s with neg := v } := by
  have o : ∀ j, j ≠ 42 → (w.setCell ⟨b, 42, none⟩ (.bool v)).cell? ⟨b, j, none⟩ = w.cell? ⟨b, j, none⟩ := fun j hj => World.cell?_setCell_other w _ _ _ (by intro h; cases h; exact hj rfl)
  exact ⟨fun j hj => ⟨(o j (by omega)).trans (h.row j hj).1, (World.frozen?_setCell ..).trans (h.row j hj).2⟩, (o 40 (by omega)).trans h.c0, (o 41 (by omega)).trans h.c1, World.cell?_setCell_same w _ _ h.c2, (o 43 (by omega)).trans h.c3,
    (World.frozen?_setCell ..).trans h.f0, (World.frozen?_setCell ..).trans h.f1, (World.frozen?_setCell ..).trans h.f2, (World.frozen?_setCell ..).trans h.f3⟩
theorem AccAt.set3 {w : World} {b : Nat} {s : AS} (h : AccAt w b s) (v : Bool) : AccAt (w.setCell ⟨b, 43, none⟩ (.bool v)) b { s with any := v } := by
  have o : ∀ j, j ≠ 43 → (w.setCell ⟨b, 43, none⟩ (.bool v)).cell? ⟨b, j, none⟩ = w.cell? ⟨b, j, none⟩ := fun j hj => World.cell?_setCell_other w _ _ _ (by intro h; cases h; exact hj rfl)
  exact ⟨fun j hj => ⟨(o j (by omega)).trans (h.row j hj).1, (World.frozen?_setCell ..).trans (h.row j hj).2⟩, (o 40 (by omega)).trans h.c0, (o 41 (by omega)).trans h.c1, (o 42 (by omega)).trans h.c2, World.cell?_setCell_same w _ _ h.c3,
    (World.frozen?_setCell ..).trans h.f0, (World.frozen?_setCell ..).trans h.f1, (World.frozen?_setCell ..).trans h.f2, (World.frozen?_setCell ..).trans h.f3⟩
theorem Only.refl (b : Nat) (w : World) : Only b w w := .of_below (Below.refl _ _)
theorem Only.freshs {b c : Nat} {w w' : World} (h : Only b w w') (hc : w.heap.size ≤ c) (o : Nat) (vs : List Value) : Only b w (w'.setCells c o vs) := by
  induction vs generalizing o w' with
  | nil => exact h
  | cons v r ih => rw [World.setCells]; exact ih (h.fresh hc v) (o + 1)
theorem Only.drew {b : Nat} {w w' : World} (h : Only b w w') : Only b w w'.drew := ⟨h.os, h.tape, h.output, h.size, h.block⟩
theorem AccAt.drew {w : World} {b : Nat} {s : AS} (h : AccAt w b s) : AccAt w.drew b s := ⟨h.row.drew, h.c0, h.c1, h.c2, h.c3, h.f0, h.f1, h.f2, h.f3⟩
theorem Row.setAll {w : World} {b : Nat} {f : Nat → Int} (h : Row w b f) (z : Int) : Row (w.setCells b 0 (WL z)) b (wd z) := fun j hj => by
  refine ⟨?_, (World.frozen?_setCells ..).trans (h j hj).2⟩
  have hl : j < (WL z).length := by rw [WL_len]; exact hj
  have := World.cell?_setCells_in b (WL z) 0 w (fun i hi => by rw [Nat.zero_add, (h i (by rw [WL_len] at hi; exact hi)).1]; rfl) j hl
  rw [Nat.zero_add] at this
  rw [this]
  have e := WL_get z j hj
  rw [List.getElem?_eq_getElem hl] at e
  exact e
theorem AccAt.setRow {w : World} {b : Nat} {s : AS} (h : AccAt w b s) (z : Int) : AccAt (w.setCells b 0 (WL z)) b { s with z := z } := by
  have o : ∀ j, 40 ≤ j → (w.setCells b 0 (WL z)).cell? ⟨b, j, none⟩ = w.cell? ⟨b, j, none⟩ := fun j hj => World.cell?_setCells_out b _ 0 w _ (fun _ _ => Or.inr (by rw [WL_len]; simpa using hj))
  exact ⟨h.row.setAll z, (o 40 (by omega)).trans h.c0, (o 41 (by omega)).trans h.c1, (o 42 (by omega)).trans h.c2, (o 43 (by omega)).trans h.c3,
    (World.frozen?_setCells ..).trans h.f0, (World.frozen?_setCells ..).trans h.f1, (World.frozen?_setCells ..).trans h.f2, (World.frozen?_setCells ..).trans h.f3⟩
theorem AccAt.apart {w : World} {b c : Nat} {s : AS} (h : AccAt w b s) (hc : b ≠ c) (o : Nat) (vs : List Value) : AccAt (w.setCells c o vs) b s := by
  have e : ∀ j, (w.setCells c o vs).cell? ⟨b, j, none⟩ = w.cell? ⟨b, j, none⟩ := fun j => World.cell?_setCells_out c _ o w _ (fun h _ => absurd h hc)
  have f : ∀ j, (w.setCells c o vs).frozen? ⟨b, j, none⟩ = w.frozen? ⟨b, j, none⟩ := fun j => World.frozen?_setCells ..
  exact ⟨fun j hj => ⟨(e j).trans (h.row j hj).1, (f j).trans (h.row j hj).2⟩, (e _).trans h.c0, (e _).trans h.c1, (e _).trans h.c2, (e _).trans h.c3, (f _).trans h.f0, (f _).trans h.f1, (f _).trans h.f2, (f _).trans h.f3⟩
theorem size_setCells (w : World) (b o : Nat) (vs : List Value) : (w.setCells b o vs).heap.size = w.heap.size := by
  induction vs generalizing o w with
  | nil => rfl
  | cons v r ih => rw [World.setCells, ih]; simp
section
variable {P : Program} {ops : Array Oper} {C : World → Prop} {G : FuncId → Array Value → Value → Prop} {Q : Act → Prop} {rest : List Oper} {a : Act}
variable {dst : Option Tmp} {T : TypeId} {pos : String} {af : Array Edge} {gd : Option (Nat × Bool)}
/-- a whole row loaded in a region that draws its order -/
theorem rel_load_row {x : Operand} {ty : TypeId} (b o : Nat) (cs : List Value) (d : TypeDesc) (hx : a.eval x = .pointer (some ⟨b, o, none⟩)) (hw : Region.wanted ⟨dst, .load ty x, T, pos, af, gd⟩ (yielded ops a.tmps) = true)
    (hS : ∀ w, C w → w.rangeAt b o cs) (hu : P.underlying ty = some d) (hd : d.isRow = true) (hi : (P.info? ty).map (·.size) = some cs.length)
    (k : wpRel P ops C G Q rest (a.put dst (.agg cs.toArray))) : wpRel P ops C G Q (⟨dst, .load ty x, T, pos, af, gd⟩ :: rest) a :=
  rel_val hw (fun w hc => by
    unfold execOp
    simp only [hx, Instr.loadAt, Instr.sureAddr, Sem.run_bind, Sem.run_pure, Result.andThen_ok, run_loadVar_mid w b o ty cs d (hS w hc) hu hd hi]) k
end
end Go.Proofs.YthohhepoddnbnaaGreatDoor
