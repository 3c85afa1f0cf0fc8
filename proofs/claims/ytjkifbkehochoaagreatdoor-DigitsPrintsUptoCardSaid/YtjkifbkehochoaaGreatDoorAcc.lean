/- An Acc's forty words: plus, negative. -/
import Derived.Test.YtjkifbkehochoaaGreatDoorMgBase
import Derived.Test.YtjkifbkehochoaaGreatDoorMgDhD
import Derived.Deep.MidRow
import Derived.RegionTactic
import Derived.BigRegion
import Derived.ChangeAlike
import Derived.Outline
namespace Go.Proofs.YtjkifbkehochoaaGreatDoor
open Go.RowKit Fl

/-- the words of a whole number -/
def WL (z : Int) : List Value := (List.range 40).map fun i => .int .u64 (wd z i)
theorem WL_len (z : Int) : (WL z).length = 40 := by simp [WL]
theorem WL_get (z : Int) (i : Nat) (h : i < 40) : (WL z)[i]? = some (.int .u64 (wd z i)) := by simp [WL, h]

theorem x179 (x y c : Int) (hx : 0 ≤ x) (hy : 0 ≤ y) (hc0 : 0 ≤ c) (hc : c ≤ 1) (w : World) : (callFunc 113 #[.int .u64 x, .int .u64 y, .int .u64 c]).run Tryz.prog w = .ok (.value (.tuple #[.int .u64 ((x + y + c) % 18446744073709551616), .int .u64 ((x + y + c) / 18446744073709551616)])) w := by
  rw [run_callFunc_extern (P := Tryz.prog) (f := 113) (fn := Tryz.f113) (e := add64Entry) (by kernel_rfl) (by kernel_rfl) (by kernel_rfl) (by kernel_rfl) (by kernel_rfl)]
  rw [run_add64 x y c hx hy hc0 hc]; rfl

/-- Cells of a block, one by one. -/
def Row (w : World) (b : Nat) (f : Nat → Int) : Prop := ∀ j, j < 40 → w.cell? ⟨b, j, none⟩ = some (.int .u64 (f j)) ∧ w.frozen? ⟨b, j, none⟩ = false
theorem Row.below {w w' : World} {b : Nat} {f : Nat → Int} (h : Row w b f) {B : Nat} (hb : Below B w w') (hB : b < B) : Row w' b f := fun j hj => by
  rw [hb.cell (p := ⟨b, j, none⟩) hB, hb.frozen (p := ⟨b, j, none⟩) hB]; exact h j hj
theorem Row.set {w : World} {b : Nat} {f : Nat → Int} (h : Row w b f) (k : Nat) (hk : k < 40) (v : Int) : Row (w.setCell ⟨b, k, none⟩ (.int .u64 v)) b (fun j => if j = k then v else f j) := by
  intro j hj
  obtain ⟨h1, h2⟩ := h j hj
  refine ⟨?_, ?_⟩
  · show (w.setCell ⟨b, k, none⟩ (.int .u64 v)).cell? ⟨b, j, none⟩ = some (.int .u64 (if j = k then v else f j))
    by_cases e : j = k
    · subst e
      rw [if_pos rfl]
      exact World.cell?_setCell_same w _ _ h1
    · rw [if_neg e, World.cell?_setCell_other w _ _ _ (by intro h; cases h; exact e rfl)]; exact h1
  · rw [World.frozen?_setCell]; exact h2
theorem Row.drew {w : World} {b : Nat} {f : Nat → Int} (h : Row w b f) : Row w.drew b f := fun j hj => h j hj
theorem Row.other {w : World} {b : Nat} {f : Nat → Int} (h : Row w b f) (p : Addr) (v : Value) (hp : p.block ≠ b) : Row (w.setCell p v) b f := fun j hj => by
  refine ⟨?_, ?_⟩
  · rw [World.cell?_setCell_other w _ _ _ (by intro h; subst h; exact hp rfl)]; exact (h j hj).1
  · rw [World.frozen?_setCell]; exact (h j hj).2
theorem row_alloc_lt {w : World} {b : Nat} {f : Nat → Int} (h : Row w b f) (hb : b < w.heap.size) (o : Obj) : Row (w.alloc o) b f :=
  h.below ((Below.refl w.heap.size w).alloc (Nat.le_refl _) o) hb
theorem Row.range {w : World} {b : Nat} {z : Int} (h : Row w b (wd z)) : w.rangeAt b 0 (WL z) := fun j v hv => by
  have hj : j < 40 := by have := (List.getElem?_eq_some_iff.1 hv).1; rw [WL_len] at this; exact this
  rw [WL_get z j hj] at hv
  cases hv
  rw [Nat.zero_add]; exact (h j hj).1
theorem Row.there {w : World} {b : Nat} {f : Nat → Int} (h : Row w b f) {n : Nat} (hn : n = 40) : w.there b 0 n := fun j hj => by
  rw [Nat.zero_add, (h j (by omega)).1, (h j (by omega)).2]; exact ⟨rfl, rfl⟩
theorem WL_one (z : Int) : (WL z).toArray.all (·.oneCell') = true := all_oneCell_toArray (fun v hv => by
  unfold WL at hv
  obtain ⟨i, _, rfl⟩ := List.mem_map.1 hv
  rfl)
theorem below_setCells {B : Nat} {a w : World} (h : Below B a w) {b : Nat} (hb : B ≤ b) (o : Nat) (vs : List Value) : Below B a (w.setCells b o vs) := by
  induction vs generalizing o w with
  | nil => exact h
  | cons v r ih => rw [World.setCells]; exact ih (h.setCell hb v) (o + 1)
theorem results_cell1 {P : Program} {fn : Func} {p : Tmp} {ty : TypeId} (h : fn.results = #[.cell p ty]) {tmps : Array Value} {a : Addr} (hp : tmps.getD p undef = .pointer (some a)) {w : World} {v : Value}
    (hl : (loadVar ty a).run P w = .ok v w) : (results fn tmps).run P w = .ok v w := by
  have hp' : tmps[p]?.getD undef = .pointer (some a) := by simpa using hp
  simp [results, h, hp', asAddr, hl]
theorem Row.congr {w : World} {b : Nat} {f g : Nat → Int} (h : Row w b f) (e : ∀ j, j < 40 → f j = g j) : Row w b g := fun j hj => by rw [← e j hj]; exact h j hj

def sub64Entry : Array Value → Sem Value := fun args => do
  let (x, y, b) ← Extern.MathBitsCarry.three "Sub64" args
  pure (Extern.MathBitsCarry.pair ((x + Extern.MathBitsCarry.m64 - y - b) % Extern.MathBitsCarry.m64) (if x < y + b then 1 else 0))
theorem x178 (y c : Int) (hy : 0 ≤ y) (hy2 : y < 18446744073709551616) (hc0 : 0 ≤ c) (hc : c ≤ 1) (w : World) : (callFunc 86 #[.int .u64 0, .int .u64 y, .int .u64 c]).run Tryz.prog w = .ok (.value (.tuple #[.int .u64 ((0 - y - c) % 18446744073709551616), .int .u64 (if y + c = 0 then 0 else 1)])) w := by
  rw [run_callFunc_extern (P := Tryz.prog) (f := 86) (fn := Tryz.f86) (e := sub64Entry) (by kernel_rfl) (by kernel_rfl) (by kernel_rfl) (by kernel_rfl) (by kernel_rfl)]
  have key : ∀ k : Nat, k ≤ 1 → (sub64Entry #[.int .u64 0, .int .u64 y, .int .u64 (k : Int)]).run Tryz.prog w =
      .ok (Extern.MathBitsCarry.pair ((0 + Extern.MathBitsCarry.m64 - y.toNat - k) % Extern.MathBitsCarry.m64) (if 0 < y.toNat + k then 1 else 0)) w := by
    intro k hk
    have : k = 0 ∨ k = 1 := by omega
    rcases this with rfl | rfl <;> rfl
  obtain ⟨k, rfl⟩ := Int.eq_ofNat_of_zero_le hc0
  rw [key k (by omega)]
  obtain ⟨Y, rfl⟩ := Int.eq_ofNat_of_zero_le hy
  have e1 : ((((0 + Extern.MathBitsCarry.m64 - (Y : Int).toNat - k) % Extern.MathBitsCarry.m64 : Nat)) : Int) = (0 - (Y : Int) - (k : Int)) % 18446744073709551616 := by
    rw [Int.toNat_natCast]
    have : Extern.MathBitsCarry.m64 = 18446744073709551616 := rfl
    rw [this]; omega
  have e2 : (((if 0 < (Y : Int).toNat + k then 1 else 0 : Nat)) : Int) = if (Y : Int) + (k : Int) = 0 then 0 else 1 := by
    rw [Int.toNat_natCast]
    by_cases h : 0 < Y + k
    · rw [if_pos h, if_neg (by omega)]; rfl
    · rw [if_neg h, if_pos (by omega)]; rfl
  show Result.ok (Next.value (.tuple #[.int .u64 (Int.ofNat _), .int .u64 (Int.ofNat _)])) w = _
  rw [← e1, ← e2]; rfl

end Go.Proofs.YtjkifbkehochoaaGreatDoor
