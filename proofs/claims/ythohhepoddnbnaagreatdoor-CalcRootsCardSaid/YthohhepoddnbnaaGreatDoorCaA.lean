/- A word and its place; the square root; an amount (turned from the seat Ytelalledjbeenaa). -/
import Derived.Test.YthohhepoddnbnaaGreatDoorAlive
import Derived.Test.YthohhepoddnbnaaGreatDoorArith
import Derived.Test.YthohhepoddnbnaaGreatDoorRelB
import Derived.Test.YthohhepoddnbnaaGreatDoorAccE
import Derived.Test.YthohhepoddnbnaaGreatDoorSumsC
import Derived.Deep.MidRow
import Derived.Laws.Externs
namespace Go.Proofs.YthohhepoddnbnaaGreatDoor
open Go.RowKit Fl

/-- a word of a place -/
def RV (r : Nat) (p : Int) : Prop := U r ∧ pl r = p
theorem RV.self {x : Nat} (h : U x) : RV x (pl x) := ⟨h, rfl⟩
theorem RV.fop {x y : Nat} {P Q : Int} (op : BinOp) (hx : RV x P) (hy : RV y Q) (w : World) : RV (fop op x y w) (opP op P Q) := ⟨U_fop _ _ _ _, by rw [pl_fop op x y w hx.1 hy.1, hx.2, hy.2]⟩
theorem RV.lt {x y : Nat} {P Q : Int} (hx : RV x P) (hy : RV y Q) : (FloatKind.f64.format.order x y == some Ordering.lt) = fltP P Q := by rw [f_lt x y hx.1 hy.1, hx.2, hy.2]
theorem RV.le {x y : Nat} {P Q : Int} (hx : RV x P) (hy : RV y Q) : (FloatKind.f64.format.order x y == some Ordering.lt || FloatKind.f64.format.order x y == some Ordering.eq) = fleP P Q := by rw [f_le x y hx.1 hy.1, hx.2, hy.2]
theorem RV.eq_ {x y : Nat} {P Q : Int} (hx : RV x P) (hy : RV y Q) : (FloatKind.f64.format.order x y == some Ordering.eq) = feqP P Q := by rw [f_eq x y hx.1 hy.1, hx.2, hy.2]
/-- one float is told, by its place -/
def RetR (p : Int) (e : Ending) : Prop := ∃ r, e = .returned (.float .f64 r) ∧ RV r p
theorem there_new (w : World) (cs : Array Value) (t : TypeId) (n : Nat) (h : cs.size = n) : (w.alloc (.cells cs t)).there w.heap.size 0 n := fun j hj => by
  rw [Nat.zero_add, World.cell?_alloc_new w cs t j, Array.getElem?_eq_getElem (by omega)]
  exact ⟨rfl, by simp [go_sem]⟩
theorem range_new (w : World) (cs : List Value) (t : TypeId) : (w.alloc (.cells cs.toArray t)).rangeAt w.heap.size 0 cs := fun j v hj => by
  rw [Nat.zero_add, World.cell?_alloc_new w cs.toArray t j, List.getElem?_toArray]; exact hj
theorem range_below {w w' : World} {b o B : Nat} {cs : List Value} (h : w.rangeAt b o cs) (hb : Below B w w') (hB : b < B) : w'.rangeAt b o cs := fun j v hj => (hb.cell (p := ⟨b, o + j, none⟩) hB).trans (h j v hj)
theorem there_below {w w' : World} {b o n B : Nat} (h : w.there b o n) (hb : Below B w w') (hB : b < B) : w'.there b o n := fun j hj => by
  rw [hb.cell (p := ⟨b, o + j, none⟩) hB, hb.frozen (p := ⟨b, o + j, none⟩) hB]; exact h j hj
theorem b_rg (x : Nat) (h : U x) : bits .and .u64 (x : Int) 9223372036854775807 = ((rg x : Nat) : Int) := by
  rw [show (9223372036854775807 : Int) = ((9223372036854775807 : Nat) : Int) from rfl, u64_and_nat _ _ h.lt (by omega)]
  congr 1
  exact Nat.and_two_pow_sub_one_eq_mod x 63
set_option maxRecDepth 100000 in
/-- a number without its sign -/
theorem c171 (x : Nat) (w : World) (h : U x) : Calls Tryz.prog 17 #[.float .f64 x] w fun e w' => e = .returned (.float .f64 (rg x)) ∧ w = w' := by
  have E := b_rg x h
  have h1 := fun w => x153 (rg x) w
  clear h
  go_enter Tryz.func17, Tryz.ntmps17
  go_wp2_with (first | (go_at_call 63; refine (x128 _ _).mono ?_; rintro e w' ⟨rfl, rfl⟩) | (go_at_call 62; fail))
  go_ret
  exact ⟨rfl, rfl⟩
/-- the place of a square root -/
def sqrtP (p : Int) : Int := match FloatKind.f64.format.sqrt (atW p) with | some r => pl r | none => 9223372036854775807
theorem sqrt_nan (x : Nat) (hx : U x) (hn : isN x = true) : FloatKind.f64.format.sqrt x = none := by
  show Ieee.double.sqrt x = none
  unfold Ieee.Format.sqrt
  rw [read_nan x hx.lt hn]; rfl
theorem U_sqrt (x r : Nat) (h : FloatKind.f64.format.sqrt x = some r) : U r := by
  have h : Ieee.double.sqrt x = some r := h
  unfold Ieee.Format.sqrt at h
  rw [Option.map_eq_some_iff] at h
  obtain ⟨d, _, rfl⟩ := h
  exact Ieee.Format.write_lt _ _
def onRoot (x : Nat) (o : Option Nat) : Sem Value := match o with | some r => pure (.float .f64 r) | none => do pure (.float .f64 (← choose (.nanBits .f64 x x)))
theorem onRoot_eq (x : Nat) : Extern.MathSqrt.sqrt #[.float .f64 x] = onRoot x (FloatKind.f64.format.sqrt x) := rfl
theorem x183 (x : Nat) (w : World) (hx : U x) : ∃ r n, (callFunc 91 #[.float .f64 x]).run Tryz.prog w = .ok (.value (.float .f64 r)) (w.drewN n) ∧ RV r (sqrtP (pl x)) := by
  rw [run_callFunc_extern (P := Tryz.prog) (f := 91) (fn := Tryz.f91) (e := Extern.MathSqrt.sqrt) (by kernel_rfl) (by kernel_rfl) (by kernel_rfl) (by kernel_rfl) (by kernel_rfl)]
  rw [onRoot_eq]
  unfold sqrtP
  by_cases hn : isN x = true
  · have h1 := sqrt_nan x hx hn
    have h2 := sqrt_nan _ U_atN isN_atW
    rw [pl_nan hn]
    unfold NP
    rw [h1, h2]
    exact ⟨(Question.nanBits .f64 x x).cut (w.tape w.drawn (Question.nanBits .f64 x x)), 1, rfl, (nanBits_cut _ _ _).1, pl_nan (nanBits_cut _ _ _).2⟩
  · have hn := Bool.eq_false_iff.2 hn
    rw [atW_pl x hx hn]
    cases h : FloatKind.f64.format.sqrt x with
    | some r =>
      exact ⟨r, 0, rfl, U_sqrt x r h, rfl⟩
    | none =>
      exact ⟨(Question.nanBits .f64 x x).cut (w.tape w.drawn (Question.nanBits .f64 x x)), 1, rfl, (nanBits_cut _ _ _).1, pl_nan (nanBits_cut _ _ _).2⟩
set_option maxRecDepth 100000 in
theorem k155 {x : Nat} {P : Int} (hx : RV x P) (w : World) : Calls Tryz.prog 59 #[.float .f64 x] w fun e w' => RetR (sqrtP P) e ∧ ∃ n, w' = w.drewN n := by
  obtain ⟨r, n, h, hr⟩ := x183 x w hx.1
  have HR : Hid (RV r (sqrtP P)) := Lib.hid (by rw [← hx.2]; exact hr)
  clear hr hx
  go_enter Tryz.func59, Tryz.ntmps59
  go_wp2
  go_ret
  exact ⟨⟨r, rfl, HR.out⟩, n, rfl⟩
end Go.Proofs.YthohhepoddnbnaaGreatDoor
