/- A sum of the reference's in memory: Add. A sum of the reference's: Add, case by case: printed by u113.py. -/
import Derived.Test.YtelalledjbeenaaUA
import Derived.Test.YtelalledjbeenaaAccG
namespace Go.Proofs.Ytelalledjbeenaa
open Go.RowKit Fl

/-- what a sum holds: the units above nought, below, how many numbers, that are none, infinities, noughts below -/
structure RS where
  up : Nat
  down : Nat
  many : Nat
  none : Nat
  high : Nat
  low : Nat
  cold : Nat
def RS.zero : RS := ⟨0, 0, 0, 0, 0, 0, 0⟩
/-- one cell of a number -/
def ICell (w : World) (b o : Nat) (n : Nat) : Prop := w.cell? ⟨b, o, Option.none⟩ = some (.int .i64 (n : Nat)) ∧ w.frozen? ⟨b, o, Option.none⟩ = false
structure SumAt (w : World) (b o : Nat) (s : RS) : Prop where
  up : URow w b o (dg s.up)
  down : URow w b (o + 70) (dg s.down)
  m0 : ICell w b (o + 140) s.many
  m1 : ICell w b (o + 141) s.none
  m2 : ICell w b (o + 142) s.high
  m3 : ICell w b (o + 143) s.low
  m4 : ICell w b (o + 144) s.cold
theorem ICell.set {w : World} {b o n : Nat} (h : ICell w b o n) (m : Nat) : ICell (w.setCell ⟨b, o, Option.none⟩ (.int .i64 (m : Nat))) b o m := ⟨World.cell?_setCell_same w _ _ h.1, (World.frozen?_setCell ..).trans h.2⟩
theorem ICell.other {w : World} {b o n : Nat} (h : ICell w b o n) {q : Nat} (hq : q ≠ o) (v : Value) : ICell (w.setCell ⟨b, q, Option.none⟩ v) b o n :=
  ⟨(World.cell?_setCell_other w _ _ _ (by intro e; injection e with _ e; exact hq e)).trans h.1, (World.frozen?_setCell ..).trans h.2⟩
theorem URow.apart {w : World} {b o : Nat} {f : Nat → Nat} (h : URow w b o f) {q : Nat} (hq : q < o ∨ o + 70 ≤ q) (v : Value) : URow (w.setCell ⟨b, q, Option.none⟩ v) b o f := fun j hj =>
  ⟨(World.cell?_setCell_other w _ _ _ (by intro e; injection e with _ e; omega)).trans (h j hj).1, (World.frozen?_setCell ..).trans (h j hj).2⟩
theorem SumAt.set0 {w : World} {b o : Nat} {s : RS} (h : SumAt w b o s) (n : Nat) : SumAt (w.setCell ⟨b, o + 140, Option.none⟩ (.int .i64 (n : Nat))) b o { s with many := n } :=
  ⟨h.up.apart (by omega) _, h.down.apart (by omega) _, h.m0.set n, h.m1.other (by omega) _, h.m2.other (by omega) _, h.m3.other (by omega) _, h.m4.other (by omega) _⟩
theorem SumAt.set1 {w : World} {b o : Nat} {s : RS} (h : SumAt w b o s) (n : Nat) : SumAt (w.setCell ⟨b, o + 141, Option.none⟩ (.int .i64 (n : Nat))) b o { s with none := n } :=
  ⟨h.up.apart (by omega) _, h.down.apart (by omega) _, h.m0.other (by omega) _, h.m1.set n, h.m2.other (by omega) _, h.m3.other (by omega) _, h.m4.other (by omega) _⟩
theorem SumAt.set2 {w : World} {b o : Nat} {s : RS} (h : SumAt w b o s) (n : Nat) : SumAt (w.setCell ⟨b, o + 142, Option.none⟩ (.int .i64 (n : Nat))) b o { s with high := n } :=
  ⟨h.up.apart (by omega) _, h.down.apart (by omega) _, h.m0.other (by omega) _, h.m1.other (by omega) _, h.m2.set n, h.m3.other (by omega) _, h.m4.other (by omega) _⟩
theorem SumAt.set3 {w : World} {b o : Nat} {s : RS} (h : SumAt w b o s) (n : Nat) : SumAt (w.setCell ⟨b, o + 143, Option.none⟩ (.int .i64 (n : Nat))) b o { s with low := n } :=
  ⟨h.up.apart (by omega) _, h.down.apart (by omega) _, h.m0.other (by omega) _, h.m1.other (by omega) _, h.m2.other (by omega) _, h.m3.set n, h.m4.other (by omega) _⟩
theorem SumAt.set4 {w : World} {b o : Nat} {s : RS} (h : SumAt w b o s) (n : Nat) : SumAt (w.setCell ⟨b, o + 144, Option.none⟩ (.int .i64 (n : Nat))) b o { s with cold := n } :=
  ⟨h.up.apart (by omega) _, h.down.apart (by omega) _, h.m0.other (by omega) _, h.m1.other (by omega) _, h.m2.other (by omega) _, h.m3.other (by omega) _, h.m4.set n⟩
theorem ICell.only {w w' : World} {b lo hi o n : Nat} (h : ICell w b o n) (k : OnlyC b lo hi w w') (ho : o < lo ∨ hi ≤ o) : ICell w' b o n := ⟨(k.cell o ho).trans h.1, (k.fro o).trans h.2⟩
theorem URow.only {w w' : World} {b lo hi o : Nat} {f : Nat → Nat} (h : URow w b o f) (k : OnlyC b lo hi w w') (ho : o + 70 ≤ lo ∨ hi ≤ o) : URow w' b o f := fun j hj =>
  ⟨(k.cell (o + j) (by omega)).trans (h j hj).1, (k.fro (o + j)).trans (h j hj).2⟩
theorem SumAt.newUp {w w' : World} {b o n : Nat} {s : RS} (h : SumAt w b o s) (hu : URow w' b o (dg n)) (k : OnlyC b o (o + 70) w w') : SumAt w' b o { s with up := n } :=
  ⟨hu, h.down.only k (by omega), h.m0.only k (by omega), h.m1.only k (by omega), h.m2.only k (by omega), h.m3.only k (by omega), h.m4.only k (by omega)⟩
theorem SumAt.newDown {w w' : World} {b o n : Nat} {s : RS} (h : SumAt w b o s) (hu : URow w' b (o + 70) (dg n)) (k : OnlyC b (o + 70) (o + 140) w w') : SumAt w' b o { s with down := n } :=
  ⟨h.up.only k (by omega), hu, h.m0.only k (by omega), h.m1.only k (by omega), h.m2.only k (by omega), h.m3.only k (by omega), h.m4.only k (by omega)⟩
/-- a sum and a number more -/
def addR (s : RS) (x : Nat) : RS :=
  ⟨s.up + (if fin x = true ∧ sg x = false then val 52 (rg x) else 0), s.down + (if fin x = true ∧ sg x = true then val 52 (rg x) else 0), s.many + 1, s.none + (if isN x then 1 else 0),
   s.high + (if x = 9218868437227405312 then 1 else 0), s.low + (if x = 18442240474082181120 then 1 else 0), s.cold + (if x = 9223372036854775808 then 1 else 0)⟩
end Go.Proofs.Ytelalledjbeenaa

namespace Go.Proofs.Ytelalledjbeenaa
open Go.RowKit Fl

theorem b_top (x : Nat) (h : U x) : ((x : Int) / 9223372036854775808 == 1) = sg x := by
  have := h.lt
  unfold sg
  rw [Bool.eq_iff_iff]
  simp
  omega
set_option maxRecDepth 100000 in
set_option maxHeartbeats 4000000 in
theorem c113n (b o : Nat) (s : RS) (x : Nat) (w : World) (h : U x) (hx : isN x = true) (hs : SumAt w b o s) (hm : s.many < 4611686018427387904 ∧ s.none < 4611686018427387904) :
    Calls Try.prog 113 #[.pointer (some ⟨b, o, Option.none⟩), .float .f64 x] w fun e w' => e = .returned (.tuple #[]) ∧ SumAt w' b o { s with many := s.many + 1, none := s.none + 1 } ∧ OnlyC b o (o + 145) w w' := by
  have E1 := b_frac x h
  have E2 := b_exp x h
  have E3 := b_top x h
  rw [show x % 4503599627370496 = fM x from rfl] at E1
  rw [show x / 4503599627370496 % 2048 = eM x from rfl] at E2
  have hE : eM x = 2047 ∧ 0 < fM x := by
    unfold isN INF rg at hx
    have := of_decide_eq_true hx
    have := h.lt
    unfold eM fM
    omega
  rw [hE.1] at E2
  have q : decide (0 < fM x) = true := decide_eq_true hE.2
  clear hE
  have A := Lib.hid ((hs.set0 (s.many + 1)).set1 (s.none + 1))
  have O := Lib.hid (((OnlyC.refl b o (o + 145) w).set (k := o + 140) (by omega) (.int .i64 ((s.many + 1 : Nat) : Int))).set (k := o + 141) (by omega) (.int .i64 ((s.none + 1 : Nat) : Int)))
  have n1 : (s.many : Int) < 4611686018427387904 := by omega
  have n2 : (s.none : Int) < 4611686018427387904 := by omega
  obtain ⟨k0, f0⟩ := hs.m0
  obtain ⟨k1, f1⟩ := hs.m1
  clear hs h hm hx
  generalize sg x = sx at *
  generalize fM x = M at *
  go_enter Try.func113, Try.ntmps113
  go_wp2_with (go_at_call 128; refine (x128 _ _).mono ?_; rintro e w' ⟨rfl, rfl⟩)
  exact bodyPost_end (v := .tuple #[]) (results_none rfl _ _ _) rfl ⟨rfl, A.out, O.out⟩
set_option maxRecDepth 100000 in
set_option maxHeartbeats 4000000 in
theorem c113h (b o : Nat) (s : RS) (x : Nat) (w : World) (h : U x) (hx : x = 9218868437227405312) (hs : SumAt w b o s) (hm : s.many < 4611686018427387904 ∧ s.high < 4611686018427387904) :
    Calls Try.prog 113 #[.pointer (some ⟨b, o, Option.none⟩), .float .f64 x] w fun e w' => e = .returned (.tuple #[]) ∧ SumAt w' b o { s with many := s.many + 1, high := s.high + 1 } ∧ OnlyC b o (o + 145) w w' := by
  have E1 := b_frac x h
  have E2 := b_exp x h
  have E3 := b_top x h
  rw [show x % 4503599627370496 = fM x from rfl] at E1
  rw [show x / 4503599627370496 % 2048 = eM x from rfl] at E2
  have hE : eM x = 2047 ∧ fM x = 0 ∧ sg x = false := by subst hx; decide
  rw [hE.1] at E2
  rw [hE.2.1] at E1
  rw [hE.2.2] at E3
  clear hE
  have A := Lib.hid ((hs.set0 (s.many + 1)).set2 (s.high + 1))
  have O := Lib.hid (((OnlyC.refl b o (o + 145) w).set (k := o + 140) (by omega) (.int .i64 ((s.many + 1 : Nat) : Int))).set (k := o + 142) (by omega) (.int .i64 ((s.high + 1 : Nat) : Int)))
  have n1 : (s.many : Int) < 4611686018427387904 := by omega
  have n2 : (s.high : Int) < 4611686018427387904 := by omega
  obtain ⟨k0, f0⟩ := hs.m0
  obtain ⟨k1, f1⟩ := hs.m2
  clear hs h hm hx
  go_enter Try.func113, Try.ntmps113
  go_wp2_with (go_at_call 128; refine (x128 _ _).mono ?_; rintro e w' ⟨rfl, rfl⟩)
  exact bodyPost_end (v := .tuple #[]) (results_none rfl _ _ _) rfl ⟨rfl, A.out, O.out⟩
set_option maxRecDepth 100000 in
set_option maxHeartbeats 4000000 in
theorem c113l (b o : Nat) (s : RS) (x : Nat) (w : World) (h : U x) (hx : x = 18442240474082181120) (hs : SumAt w b o s) (hm : s.many < 4611686018427387904 ∧ s.low < 4611686018427387904) :
    Calls Try.prog 113 #[.pointer (some ⟨b, o, Option.none⟩), .float .f64 x] w fun e w' => e = .returned (.tuple #[]) ∧ SumAt w' b o { s with many := s.many + 1, low := s.low + 1 } ∧ OnlyC b o (o + 145) w w' := by
  have E1 := b_frac x h
  have E2 := b_exp x h
  have E3 := b_top x h
  rw [show x % 4503599627370496 = fM x from rfl] at E1
  rw [show x / 4503599627370496 % 2048 = eM x from rfl] at E2
  have hE : eM x = 2047 ∧ fM x = 0 ∧ sg x = true := by subst hx; decide
  rw [hE.1] at E2
  rw [hE.2.1] at E1
  rw [hE.2.2] at E3
  clear hE
  have A := Lib.hid ((hs.set0 (s.many + 1)).set3 (s.low + 1))
  have O := Lib.hid (((OnlyC.refl b o (o + 145) w).set (k := o + 140) (by omega) (.int .i64 ((s.many + 1 : Nat) : Int))).set (k := o + 143) (by omega) (.int .i64 ((s.low + 1 : Nat) : Int)))
  have n1 : (s.many : Int) < 4611686018427387904 := by omega
  have n2 : (s.low : Int) < 4611686018427387904 := by omega
  obtain ⟨k0, f0⟩ := hs.m0
  obtain ⟨k1, f1⟩ := hs.m3
  clear hs h hm hx
  go_enter Try.func113, Try.ntmps113
  go_wp2_with (go_at_call 128; refine (x128 _ _).mono ?_; rintro e w' ⟨rfl, rfl⟩)
  exact bodyPost_end (v := .tuple #[]) (results_none rfl _ _ _) rfl ⟨rfl, A.out, O.out⟩
set_option maxRecDepth 100000 in
set_option maxHeartbeats 4000000 in
theorem c113c (b o : Nat) (s : RS) (x : Nat) (w : World) (h : U x) (hx : x = 9223372036854775808) (hs : SumAt w b o s) (hm : s.many < 4611686018427387904 ∧ s.cold < 4611686018427387904) :
    Calls Try.prog 113 #[.pointer (some ⟨b, o, Option.none⟩), .float .f64 x] w fun e w' => e = .returned (.tuple #[]) ∧ SumAt w' b o { s with many := s.many + 1, cold := s.cold + 1 } ∧ OnlyC b o (o + 145) w w' := by
  have E1 := b_frac x h
  have E2 := b_exp x h
  have E3 := b_top x h
  rw [show x % 4503599627370496 = fM x from rfl] at E1
  rw [show x / 4503599627370496 % 2048 = eM x from rfl] at E2
  have hE : eM x = 0 ∧ fM x = 0 ∧ sg x = true := by subst hx; decide
  rw [hE.1] at E2
  rw [hE.2.1] at E1
  rw [hE.2.2] at E3
  clear hE
  have A := Lib.hid ((hs.set0 (s.many + 1)).set4 (s.cold + 1))
  have O := Lib.hid (((OnlyC.refl b o (o + 145) w).set (k := o + 140) (by omega) (.int .i64 ((s.many + 1 : Nat) : Int))).set (k := o + 144) (by omega) (.int .i64 ((s.cold + 1 : Nat) : Int)))
  have n1 : (s.many : Int) < 4611686018427387904 := by omega
  have n2 : (s.cold : Int) < 4611686018427387904 := by omega
  obtain ⟨k0, f0⟩ := hs.m0
  obtain ⟨k1, f1⟩ := hs.m4
  clear hs h hm hx
  go_enter Try.func113, Try.ntmps113
  go_wp2_with (go_at_call 128; refine (x128 _ _).mono ?_; rintro e w' ⟨rfl, rfl⟩)
  exact bodyPost_end (v := .tuple #[]) (results_none rfl _ _ _) rfl ⟨rfl, A.out, O.out⟩
set_option maxRecDepth 100000 in
set_option maxHeartbeats 4000000 in
theorem c113z (b o : Nat) (s : RS) (x : Nat) (w : World) (h : U x) (hx : x = 0) (hs : SumAt w b o s) (hm : s.many < 4611686018427387904) :
    Calls Try.prog 113 #[.pointer (some ⟨b, o, Option.none⟩), .float .f64 x] w fun e w' => e = .returned (.tuple #[]) ∧ SumAt w' b o { s with many := s.many + 1 } ∧ OnlyC b o (o + 145) w w' := by
  have E1 := b_frac x h
  have E2 := b_exp x h
  have E3 := b_top x h
  rw [show x % 4503599627370496 = fM x from rfl] at E1
  rw [show x / 4503599627370496 % 2048 = eM x from rfl] at E2
  have hE : eM x = 0 ∧ fM x = 0 ∧ sg x = false := by subst hx; decide
  rw [hE.1] at E2
  rw [hE.2.1] at E1
  rw [hE.2.2] at E3
  clear hE
  have A := Lib.hid ((hs.set0 (s.many + 1)))
  have O := Lib.hid ((OnlyC.refl b o (o + 145) w).set (k := o + 140) (by omega) (.int .i64 ((s.many + 1 : Nat) : Int)))
  have n1 : (s.many : Int) < 4611686018427387904 := by omega

  obtain ⟨k0, f0⟩ := hs.m0

  clear hs h hm hx
  go_enter Try.func113, Try.ntmps113
  go_wp2_with (go_at_call 128; refine (x128 _ _).mono ?_; rintro e w' ⟨rfl, rfl⟩)
  exact bodyPost_end (v := .tuple #[]) (results_none rfl _ _ _) rfl ⟨rfl, A.out, O.out⟩
end Go.Proofs.Ytelalledjbeenaa
