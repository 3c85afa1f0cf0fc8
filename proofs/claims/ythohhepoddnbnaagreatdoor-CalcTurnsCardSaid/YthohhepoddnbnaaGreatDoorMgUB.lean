/- A sum of the reference's in memory: Add. A sum of the reference's: Add, case by case: printed by u113.py. A sum of the reference's: Add of any number: printed by u113f.py. Rows of seventy words by value: which of two is greater. Rows of seventy words by value: the greater less the other. -/
import Derived.Test.YthohhepoddnbnaaGreatDoorUA
import Derived.Test.YthohhepoddnbnaaGreatDoorMgAccF
namespace Go.Proofs.YthohhepoddnbnaaGreatDoor
open Go.RowKit Fl

/-- what a sum holds: the units above nought, below, how many numbers, that are none, infinities, noughts below -/
structure RS where
  up : Nat
  down : Nat
  many : Nat
  none : Nat
  high : Nat
  low : Nat
  cold : Nat
def RS.zero : RS := ⟨0, 0, 0, 0, 0, 0, 0⟩
/-- one cell of a number -/
def ICell (w : World) (b o : Nat) (n : Nat) : Prop := w.cell? ⟨b, o, Option.none⟩ = some (.int .i64 (n : Nat)) ∧ w.frozen? ⟨b, o, Option.none⟩ = false
structure SumAt (w : World) (b o : Nat) (s : RS) : Prop where
  up : URow w b o (dg s.up)
  down : URow w b (o + 70) (dg s.down)
  m0 : ICell w b (o + 140) s.many
  m1 : ICell w b (o + 141) s.none
  m2 : ICell w b (o + 142) s.high
  m3 : ICell w b (o + 143) s.low
  m4 : ICell w b (o + 144) s.cold
theorem ICell.set {w : World} {b o n : Nat} (h : ICell w b o n) (m : Nat) : ICell (w.setCell ⟨b, o, Option.none⟩ (.int .i64 (m : Nat))) b o m := ⟨World.cell?_setCell_same w _ _ h.1, (World.frozen?_setCell ..).trans h.2⟩
theorem ICell.other {w : World} {b o n : Nat} (h : ICell w b o n) {q : Nat} (hq : q ≠ o) (v : Value) : ICell (w.setCell ⟨b, q, Option.none⟩ v) b o n :=
  ⟨(World.cell?_setCell_other w _ _ _ (by intro e; injection e with _ e; exact hq e)).trans h.1, (World.frozen?_setCell ..).trans h.2⟩
theorem URow.apart {w : World} {b o : Nat} {f : Nat → Nat} (h : URow w b o f) {q : Nat} (hq : q < o ∨ o + 70 ≤ q) (v : Value) : URow (w.setCell ⟨b, q, Option.none⟩ v) b o f := fun j hj =>
  ⟨(World.cell?_setCell_other w _ _ _ (by intro e; injection e with _ e; omega)).trans (h j hj).1, (World.frozen?_setCell ..).trans (h j hj).2⟩
theorem SumAt.set0 {w : World} {b o : Nat} {s : RS} (h : SumAt w b o s) (n : Nat) : SumAt (w.setCell ⟨b, o + 140, Option.none⟩ (.int .i64 (n : Nat))) b o { s with many := n } :=
  ⟨h.up.apart (by omega) _, h.down.apart (by omega) _, h.m0.set n, h.m1.other (by omega) _, h.m2.other (by omega) _, h.m3.other (by omega) _, h.m4.other (by omega) _⟩
theorem SumAt.set1 {w : World} {b o : Nat} {s : RS} (h : SumAt w b o s) (n : Nat) : SumAt (w.setCell ⟨b, o + 141, Option.none⟩ (.int .i64 (n : Nat))) b o { s with none := n } :=
  ⟨h.up.apart (by omega) _, h.down.apart (by omega) _, h.m0.other (by omega) _, h.m1.set n, h.m2.other (by omega) _, h.m3.other (by omega) _, h.m4.other (by omega) _⟩
theorem SumAt.set2 {w : World} {b o : Nat} {s : RS} (h : SumAt w b o s) (n : Nat) : SumAt (w.setCell ⟨b, o + 142, Option.none⟩ (.int .i64 (n : Nat))) b o { s with high := n } :=
  ⟨h.up.apart (by omega) _, h.down.apart (by omega) _, h.m0.other (by omega) _, h.m1.other (by omega) _, h.m2.set n, h.m3.other (by omega) _, h.m4.other (by omega) _⟩
theorem SumAt.set3 {w : World} {b o : Nat} {s : RS} (h : SumAt w b o s) (n : Nat) : SumAt (w.setCell ⟨b, o + 143, Option.none⟩ (.int .i64 (n : Nat))) b o { s with low := n } :=
  ⟨h.up.apart (by omega) _, h.down.apart (by omega) _, h.m0.other (by omega) _, h.m1.other (by omega) _, h.m2.other (by omega) _, h.m3.set n, h.m4.other (by omega) _⟩
theorem SumAt.set4 {w : World} {b o : Nat} {s : RS} (h : SumAt w b o s) (n : Nat) : SumAt (w.setCell ⟨b, o + 144, Option.none⟩ (.int .i64 (n : Nat))) b o { s with cold := n } :=
  ⟨h.up.apart (by omega) _, h.down.apart (by omega) _, h.m0.other (by omega) _, h.m1.other (by omega) _, h.m2.other (by omega) _, h.m3.other (by omega) _, h.m4.set n⟩
theorem ICell.only {w w' : World} {b lo hi o n : Nat} (h : ICell w b o n) (k : OnlyC b lo hi w w') (ho : o < lo ∨ hi ≤ o) : ICell w' b o n := ⟨(k.cell o ho).trans h.1, (k.fro o).trans h.2⟩
theorem URow.only {w w' : World} {b lo hi o : Nat} {f : Nat → Nat} (h : URow w b o f) (k : OnlyC b lo hi w w') (ho : o + 70 ≤ lo ∨ hi ≤ o) : URow w' b o f := fun j hj =>
  ⟨(k.cell (o + j) (by omega)).trans (h j hj).1, (k.fro (o + j)).trans (h j hj).2⟩
theorem SumAt.newUp {w w' : World} {b o n : Nat} {s : RS} (h : SumAt w b o s) (hu : URow w' b o (dg n)) (k : OnlyC b o (o + 70) w w') : SumAt w' b o { s with up := n } :=
  ⟨hu, h.down.only k (by omega), h.m0.only k (by omega), h.m1.only k (by omega), h.m2.only k (by omega), h.m3.only k (by omega), h.m4.only k (by omega)⟩
theorem SumAt.newDown {w w' : World} {b o n : Nat} {s : RS} (h : SumAt w b o s) (hu : URow w' b (o + 70) (dg n)) (k : OnlyC b (o + 70) (o + 140) w w') : SumAt w' b o { s with down := n } :=
  ⟨h.up.only k (by omega), hu, h.m0.only k (by omega), h.m1.only k (by omega), h.m2.only k (by omega), h.m3.only k (by omega), h.m4.only k (by omega)⟩
/-- a sum and a number more -/
def addR (s : RS) (x : Nat) : RS :=
  ⟨s.up + (if fin x = true ∧ sg x = false then val 52 (rg x) else 0), s.down + (if fin x = true ∧ sg x = true then val 52 (rg x) else 0), s.many + 1, s.none + (if isN x then 1 else 0),
   s.high + (if x = 9218868437227405312 then 1 else 0), s.low + (if x = 18442240474082181120 then 1 else 0), s.cold + (if x = 9223372036854775808 then 1 else 0)⟩
end Go.Proofs.YthohhepoddnbnaaGreatDoor

namespace Go.Proofs.YthohhepoddnbnaaGreatDoor
open Go.RowKit Fl

theorem b_top (x : Nat) (h : U x) : ((x : Int) / 9223372036854775808 == 1) = sg x := by
  have := h.lt
  unfold sg
  rw [Bool.eq_iff_iff]
  simp
  omega
set_option maxRecDepth 100000 in
set_option maxHeartbeats 4000000 in
theorem c113n (b o : Nat) (s : RS) (x : Nat) (w : World) (h : U x) (hx : isN x = true) (hs : SumAt w b o s) (hm : s.many < 4611686018427387904 ∧ s.none < 4611686018427387904) :
    Calls Tryz.prog 87 #[.pointer (some ⟨b, o, Option.none⟩), .float .f64 x] w fun e w' => e = .returned (.tuple #[]) ∧ SumAt w' b o { s with many := s.many + 1, none := s.none + 1 } ∧ OnlyC b o (o + 145) w w' := by
  have E1 := b_frac x h
  have E2 := b_exp x h
  have E3 := b_top x h
  rw [show x % 4503599627370496 = fM x from rfl] at E1
  rw [show x / 4503599627370496 % 2048 = eM x from rfl] at E2
  have hE : eM x = 2047 ∧ 0 < fM x := by
    unfold isN INF rg at hx
    have := of_decide_eq_true hx
    have := h.lt
    unfold eM fM
    omega
  rw [hE.1] at E2
  have q : decide (0 < fM x) = true := decide_eq_true hE.2
  clear hE
  have A := Lib.hid ((hs.set0 (s.many + 1)).set1 (s.none + 1))
  have O := Lib.hid (((OnlyC.refl b o (o + 145) w).set (k := o + 140) (by omega) (.int .i64 ((s.many + 1 : Nat) : Int))).set (k := o + 141) (by omega) (.int .i64 ((s.none + 1 : Nat) : Int)))
  have n1 : (s.many : Int) < 4611686018427387904 := by omega
  have n2 : (s.none : Int) < 4611686018427387904 := by omega
  obtain ⟨k0, f0⟩ := hs.m0
  obtain ⟨k1, f1⟩ := hs.m1
  clear hs h hm hx
  generalize sg x = sx at *
  generalize fM x = M at *
  go_enter Tryz.func87, Tryz.ntmps87
  go_wp2_with (go_at_call 63; refine (x128 _ _).mono ?_; rintro e w' ⟨rfl, rfl⟩)
  exact bodyPost_end (v := .tuple #[]) (results_none rfl _ _ _) rfl ⟨rfl, A.out, O.out⟩
set_option maxRecDepth 100000 in
set_option maxHeartbeats 4000000 in
theorem c113h (b o : Nat) (s : RS) (x : Nat) (w : World) (h : U x) (hx : x = 9218868437227405312) (hs : SumAt w b o s) (hm : s.many < 4611686018427387904 ∧ s.high < 4611686018427387904) :
    Calls Tryz.prog 87 #[.pointer (some ⟨b, o, Option.none⟩), .float .f64 x] w fun e w' => e = .returned (.tuple #[]) ∧ SumAt w' b o { s with many := s.many + 1, high := s.high + 1 } ∧ OnlyC b o (o + 145) w w' := by
  have E1 := b_frac x h
  have E2 := b_exp x h
  have E3 := b_top x h
  rw [show x % 4503599627370496 = fM x from rfl] at E1
  rw [show x / 4503599627370496 % 2048 = eM x from rfl] at E2
  have hE : eM x = 2047 ∧ fM x = 0 ∧ sg x = false := by subst hx; decide
  rw [hE.1] at E2
  rw [hE.2.1] at E1
  rw [hE.2.2] at E3
  clear hE
  have A := Lib.hid ((hs.set0 (s.many + 1)).set2 (s.high + 1))
  have O := Lib.hid (((OnlyC.refl b o (o + 145) w).set (k := o + 140) (by omega) (.int .i64 ((s.many + 1 : Nat) : Int))).set (k := o + 142) (by omega) (.int .i64 ((s.high + 1 : Nat) : Int)))
  have n1 : (s.many : Int) < 4611686018427387904 := by omega
  have n2 : (s.high : Int) < 4611686018427387904 := by omega
  obtain ⟨k0, f0⟩ := hs.m0
  obtain ⟨k1, f1⟩ := hs.m2
  clear hs h hm hx
  go_enter Tryz.func87, Tryz.ntmps87
  go_wp2_with (go_at_call 63; refine (x128 _ _).mono ?_; rintro e w' ⟨rfl, rfl⟩)
  exact bodyPost_end (v := .tuple #[]) (results_none rfl _ _ _) rfl ⟨rfl, A.out, O.out⟩
set_option maxRecDepth 100000 in
set_option maxHeartbeats 4000000 in
theorem c113l (b o : Nat) (s : RS) (x : Nat) (w : World) (h : U x) (hx : x = 18442240474082181120) (hs : SumAt w b o s) (hm : s.many < 4611686018427387904 ∧ s.low < 4611686018427387904) :
    Calls Tryz.prog 87 #[.pointer (some ⟨b, o, Option.none⟩), .float .f64 x] w fun e w' => e = .returned (.tuple #[]) ∧ SumAt w' b o { s with many := s.many + 1, low := s.low + 1 } ∧ OnlyC b o (o + 145) w w' := by
  have E1 := b_frac x h
  have E2 := b_exp x h
  have E3 := b_top x h
  rw [show x % 4503599627370496 = fM x from rfl] at E1
  rw [show x / 4503599627370496 % 2048 = eM x from rfl] at E2
  have hE : eM x = 2047 ∧ fM x = 0 ∧ sg x = true := by subst hx; decide
  rw [hE.1] at E2
  rw [hE.2.1] at E1
  rw [hE.2.2] at E3
  clear hE
  have A := Lib.hid ((hs.set0 (s.many + 1)).set3 (s.low + 1))
  have O := Lib.hid (((OnlyC.refl b o (o + 145) w).set (k := o + 140) (by omega) (.int .i64 ((s.many + 1 : Nat) : Int))).set (k := o + 143) (by omega) (.int .i64 ((s.low + 1 : Nat) : Int)))
  have n1 : (s.many : Int) < 4611686018427387904 := by omega
  have n2 : (s.low : Int) < 4611686018427387904 := by omega
  obtain ⟨k0, f0⟩ := hs.m0
  obtain ⟨k1, f1⟩ := hs.m3
  clear hs h hm hx
  go_enter Tryz.func87, Tryz.ntmps87
  go_wp2_with (go_at_call 63; refine (x128 _ _).mono ?_; rintro e w' ⟨rfl, rfl⟩)
  exact bodyPost_end (v := .tuple #[]) (results_none rfl _ _ _) rfl ⟨rfl, A.out, O.out⟩
set_option maxRecDepth 100000 in
set_option maxHeartbeats 4000000 in
theorem c113c (b o : Nat) (s : RS) (x : Nat) (w : World) (h : U x) (hx : x = 9223372036854775808) (hs : SumAt w b o s) (hm : s.many < 4611686018427387904 ∧ s.cold < 4611686018427387904) :
    Calls Tryz.prog 87 #[.pointer (some ⟨b, o, Option.none⟩), .float .f64 x] w fun e w' => e = .returned (.tuple #[]) ∧ SumAt w' b o { s with many := s.many + 1, cold := s.cold + 1 } ∧ OnlyC b o (o + 145) w w' := by
  have E1 := b_frac x h
  have E2 := b_exp x h
  have E3 := b_top x h
  rw [show x % 4503599627370496 = fM x from rfl] at E1
  rw [show x / 4503599627370496 % 2048 = eM x from rfl] at E2
  have hE : eM x = 0 ∧ fM x = 0 ∧ sg x = true := by subst hx; decide
  rw [hE.1] at E2
  rw [hE.2.1] at E1
  rw [hE.2.2] at E3
  clear hE
  have A := Lib.hid ((hs.set0 (s.many + 1)).set4 (s.cold + 1))
  have O := Lib.hid (((OnlyC.refl b o (o + 145) w).set (k := o + 140) (by omega) (.int .i64 ((s.many + 1 : Nat) : Int))).set (k := o + 144) (by omega) (.int .i64 ((s.cold + 1 : Nat) : Int)))
  have n1 : (s.many : Int) < 4611686018427387904 := by omega
  have n2 : (s.cold : Int) < 4611686018427387904 := by omega
  obtain ⟨k0, f0⟩ := hs.m0
  obtain ⟨k1, f1⟩ := hs.m4
  clear hs h hm hx
  go_enter Tryz.func87, Tryz.ntmps87
  go_wp2_with (go_at_call 63; refine (x128 _ _).mono ?_; rintro e w' ⟨rfl, rfl⟩)
  exact bodyPost_end (v := .tuple #[]) (results_none rfl _ _ _) rfl ⟨rfl, A.out, O.out⟩
set_option maxRecDepth 100000 in
set_option maxHeartbeats 4000000 in
theorem c113z (b o : Nat) (s : RS) (x : Nat) (w : World) (h : U x) (hx : x = 0) (hs : SumAt w b o s) (hm : s.many < 4611686018427387904) :
    Calls Tryz.prog 87 #[.pointer (some ⟨b, o, Option.none⟩), .float .f64 x] w fun e w' => e = .returned (.tuple #[]) ∧ SumAt w' b o { s with many := s.many + 1 } ∧ OnlyC b o (o + 145) w w' := by
  have E1 := b_frac x h
  have E2 := b_exp x h
  have E3 := b_top x h
  rw [show x % 4503599627370496 = fM x from rfl] at E1
  rw [show x / 4503599627370496 % 2048 = eM x from rfl] at E2
  have hE : eM x = 0 ∧ fM x = 0 ∧ sg x = false := by subst hx; decide
  rw [hE.1] at E2
  rw [hE.2.1] at E1
  rw [hE.2.2] at E3
  clear hE
  have A := Lib.hid ((hs.set0 (s.many + 1)))
  have O := Lib.hid ((OnlyC.refl b o (o + 145) w).set (k := o + 140) (by omega) (.int .i64 ((s.many + 1 : Nat) : Int)))
  have n1 : (s.many : Int) < 4611686018427387904 := by omega

  obtain ⟨k0, f0⟩ := hs.m0

  clear hs h hm hx
  go_enter Tryz.func87, Tryz.ntmps87
  go_wp2_with (go_at_call 63; refine (x128 _ _).mono ?_; rintro e w' ⟨rfl, rfl⟩)
  exact bodyPost_end (v := .tuple #[]) (results_none rfl _ _ _) rfl ⟨rfl, A.out, O.out⟩
end Go.Proofs.YthohhepoddnbnaaGreatDoor

namespace Go.Proofs.YthohhepoddnbnaaGreatDoor
open Go.RowKit Fl

theorem OnlyC.wide {b lo hi lo' hi' : Nat} {w w' : World} (h : OnlyC b lo hi w w') (h1 : lo' ≤ lo) (h2 : hi ≤ hi') : OnlyC b lo' hi' w w' :=
  ⟨h.only, fun j hj => h.cell j (by omega), h.fro⟩
set_option maxRecDepth 100000 in
set_option maxHeartbeats 4000000 in
theorem c113fu0 (b o : Nat) (s : RS) (x : Nat) (w : World) (h : U x) (hsg : sg x = false) (hE : eM x = 0) (hM : 0 < fM x) (hs : SumAt w b o s) (hb : b < w.heap.size) (hm : s.many < 4611686018427387904) :
    Calls Tryz.prog 87 #[.pointer (some ⟨b, o, Option.none⟩), .float .f64 x] w fun e w' => e = .returned (.tuple #[]) ∧ SumAt w' b o { s with many := s.many + 1, up := s.up + mM x * 2 ^ mE x } ∧ OnlyC b o (o + 145) w w' := by
  have E1 := b_frac x h
  have E2 := b_exp x h
  have E3 := b_top x h
  rw [show x % 4503599627370496 = fM x from rfl] at E1
  rw [show x / 4503599627370496 % 2048 = eM x from rfl] at E2
  rw [hsg] at E3
  have hM52 : fM x < 4503599627370496 := by unfold fM; omega
  have hmm : mM x = fM x ∧ mE x = 0 := by unfold mM mE; rw [if_pos hE, if_pos hE]; exact ⟨rfl, rfl⟩
  rw [hmm.1, hmm.2]
  rw [hE] at E2
  have q : ((fM x : Nat) : Int) ≠ 0 := by omega
  have q2 : (((fM x : Nat) : Int) == 0) = false := by simp; omega
  clear hmm hE
  have A := Lib.hid (hs.set0 (s.many + 1))
  have O := Lib.hid ((OnlyC.refl b o (o + 145) w).set (k := o + 140) (by omega) (.int .i64 ((s.many + 1 : Nat) : Int)))
  have HB := Lib.hid (show b < (w.setCell ⟨b, o + 140, Option.none⟩ (.int .i64 ((s.many + 1 : Nat) : Int))).heap.size by rw [World.size_setCell]; exact hb)
  have n1 : (s.many : Int) < 4611686018427387904 := by omega
  obtain ⟨k0, f0⟩ := hs.m0
  clear hs h hm hsg hb
  generalize fM x = M at *
  have HM := Lib.hid (show U M by unfold U; omega)
  clear hM
  go_enter Tryz.func87, Tryz.ntmps87
  go_wp2_with (first | (go_at_call 63; refine (x128 _ _).mono ?_; rintro e w' ⟨rfl, rfl⟩) | (go_at_call 89; fail))

  refine (c166 b (o) s.up (M) (0) _ HM.out (by decide) A.out.up HB.out).mono ?_
  rintro e w2 ⟨rfl, hr, ho⟩
  have A2 := Lib.hid (A.out.newUp hr ho)
  have O2 := Lib.hid (O.out.trans (ho.wide (by omega) (by omega)))
  clear hr ho
  go_wp2_with fail
  exact bodyPost_end (v := .tuple #[]) (results_none rfl _ _ _) rfl ⟨rfl, A2.out, O2.out⟩
set_option maxRecDepth 100000 in
set_option maxHeartbeats 4000000 in
theorem c113fd0 (b o : Nat) (s : RS) (x : Nat) (w : World) (h : U x) (hsg : sg x = true) (hE : eM x = 0) (hM : 0 < fM x) (hs : SumAt w b o s) (hb : b < w.heap.size) (hm : s.many < 4611686018427387904) :
    Calls Tryz.prog 87 #[.pointer (some ⟨b, o, Option.none⟩), .float .f64 x] w fun e w' => e = .returned (.tuple #[]) ∧ SumAt w' b o { s with many := s.many + 1, down := s.down + mM x * 2 ^ mE x } ∧ OnlyC b o (o + 145) w w' := by
  have E1 := b_frac x h
  have E2 := b_exp x h
  have E3 := b_top x h
  rw [show x % 4503599627370496 = fM x from rfl] at E1
  rw [show x / 4503599627370496 % 2048 = eM x from rfl] at E2
  rw [hsg] at E3
  have hM52 : fM x < 4503599627370496 := by unfold fM; omega
  have hmm : mM x = fM x ∧ mE x = 0 := by unfold mM mE; rw [if_pos hE, if_pos hE]; exact ⟨rfl, rfl⟩
  rw [hmm.1, hmm.2]
  rw [hE] at E2
  have q : ((fM x : Nat) : Int) ≠ 0 := by omega
  have q2 : (((fM x : Nat) : Int) == 0) = false := by simp; omega
  clear hmm hE
  have A := Lib.hid (hs.set0 (s.many + 1))
  have O := Lib.hid ((OnlyC.refl b o (o + 145) w).set (k := o + 140) (by omega) (.int .i64 ((s.many + 1 : Nat) : Int)))
  have HB := Lib.hid (show b < (w.setCell ⟨b, o + 140, Option.none⟩ (.int .i64 ((s.many + 1 : Nat) : Int))).heap.size by rw [World.size_setCell]; exact hb)
  have n1 : (s.many : Int) < 4611686018427387904 := by omega
  obtain ⟨k0, f0⟩ := hs.m0
  clear hs h hm hsg hb
  generalize fM x = M at *
  have HM := Lib.hid (show U M by unfold U; omega)
  clear hM
  go_enter Tryz.func87, Tryz.ntmps87
  go_wp2_with (first | (go_at_call 63; refine (x128 _ _).mono ?_; rintro e w' ⟨rfl, rfl⟩) | (go_at_call 89; fail))

  refine (c166 b (o + 70) s.down (M) (0) _ HM.out (by decide) A.out.down HB.out).mono ?_
  rintro e w2 ⟨rfl, hr, ho⟩
  have A2 := Lib.hid (A.out.newDown hr ho)
  have O2 := Lib.hid (O.out.trans (ho.wide (by omega) (by omega)))
  clear hr ho
  go_wp2_with fail
  exact bodyPost_end (v := .tuple #[]) (results_none rfl _ _ _) rfl ⟨rfl, A2.out, O2.out⟩
set_option maxRecDepth 100000 in
set_option maxHeartbeats 4000000 in
theorem c113fu (b o : Nat) (s : RS) (x : Nat) (w : World) (h : U x) (hsg : sg x = false) (hE : 0 < eM x ∧ eM x < 2047) (hs : SumAt w b o s) (hb : b < w.heap.size) (hm : s.many < 4611686018427387904) :
    Calls Tryz.prog 87 #[.pointer (some ⟨b, o, Option.none⟩), .float .f64 x] w fun e w' => e = .returned (.tuple #[]) ∧ SumAt w' b o { s with many := s.many + 1, up := s.up + mM x * 2 ^ mE x } ∧ OnlyC b o (o + 145) w w' := by
  have E1 := b_frac x h
  have E2 := b_exp x h
  have E3 := b_top x h
  rw [show x % 4503599627370496 = fM x from rfl] at E1
  rw [show x / 4503599627370496 % 2048 = eM x from rfl] at E2
  rw [hsg] at E3
  have hM52 : fM x < 4503599627370496 := by unfold fM; omega
  have hmm : mM x = fM x + 4503599627370496 ∧ mE x = eM x - 1 := by unfold mM mE; rw [if_neg (by omega), if_neg (by omega)]; exact ⟨by omega, rfl⟩
  rw [hmm.1, hmm.2]
  clear hmm
  have A := Lib.hid (hs.set0 (s.many + 1))
  have O := Lib.hid ((OnlyC.refl b o (o + 145) w).set (k := o + 140) (by omega) (.int .i64 ((s.many + 1 : Nat) : Int)))
  have HB := Lib.hid (show b < (w.setCell ⟨b, o + 140, Option.none⟩ (.int .i64 ((s.many + 1 : Nat) : Int))).heap.size by rw [World.size_setCell]; exact hb)
  have n1 : (s.many : Int) < 4611686018427387904 := by omega
  obtain ⟨k0, f0⟩ := hs.m0
  clear hs h hm hsg hb
  generalize fM x = M at *
  generalize eM x = E at *
  have t1 : ((E : Int) == 2047) = false := by simp; omega
  have t2 : ((E : Int) == 0) = false := by simp; omega
  have t3 : decide (0 < E) = true := decide_eq_true (by omega)
  have t4 : (1 : Int) ≤ (E : Int) := by omega
  have t5 : (E : Int) < 2047 := by omega
  have ev : (M : Int) + 4503599627370496 = ((M + 4503599627370496 : Nat) : Int) := by omega
  have ep : (E : Int) - 1 = ((E - 1 : Nat) : Int) := by omega
  have HV := Lib.hid (And.intro ev ep)
  have HM := Lib.hid (show U (M + 4503599627370496) by unfold U; omega)
  have HE := Lib.hid hE
  have m52 : (M : Int) < 4503599627370496 := by omega
  clear hE ev ep hM52
  go_enter Tryz.func87, Tryz.ntmps87
  go_wp2_with (first | (go_at_call 63; refine (x128 _ _).mono ?_; rintro e w' ⟨rfl, rfl⟩) | (go_at_call 89; fail))
  rw [HV.out.1, HV.out.2]
  refine (c166 b (o) s.up (M + 4503599627370496) (E - 1) _ HM.out (by have := HE.out; omega) A.out.up HB.out).mono ?_
  rintro e w2 ⟨rfl, hr, ho⟩
  have A2 := Lib.hid (A.out.newUp hr ho)
  have O2 := Lib.hid (O.out.trans (ho.wide (by omega) (by omega)))
  clear hr ho
  go_wp2_with fail
  exact bodyPost_end (v := .tuple #[]) (results_none rfl _ _ _) rfl ⟨rfl, A2.out, O2.out⟩
set_option maxRecDepth 100000 in
set_option maxHeartbeats 4000000 in
theorem c113fd (b o : Nat) (s : RS) (x : Nat) (w : World) (h : U x) (hsg : sg x = true) (hE : 0 < eM x ∧ eM x < 2047) (hs : SumAt w b o s) (hb : b < w.heap.size) (hm : s.many < 4611686018427387904) :
    Calls Tryz.prog 87 #[.pointer (some ⟨b, o, Option.none⟩), .float .f64 x] w fun e w' => e = .returned (.tuple #[]) ∧ SumAt w' b o { s with many := s.many + 1, down := s.down + mM x * 2 ^ mE x } ∧ OnlyC b o (o + 145) w w' := by
  have E1 := b_frac x h
  have E2 := b_exp x h
  have E3 := b_top x h
  rw [show x % 4503599627370496 = fM x from rfl] at E1
  rw [show x / 4503599627370496 % 2048 = eM x from rfl] at E2
  rw [hsg] at E3
  have hM52 : fM x < 4503599627370496 := by unfold fM; omega
  have hmm : mM x = fM x + 4503599627370496 ∧ mE x = eM x - 1 := by unfold mM mE; rw [if_neg (by omega), if_neg (by omega)]; exact ⟨by omega, rfl⟩
  rw [hmm.1, hmm.2]
  clear hmm
  have A := Lib.hid (hs.set0 (s.many + 1))
  have O := Lib.hid ((OnlyC.refl b o (o + 145) w).set (k := o + 140) (by omega) (.int .i64 ((s.many + 1 : Nat) : Int)))
  have HB := Lib.hid (show b < (w.setCell ⟨b, o + 140, Option.none⟩ (.int .i64 ((s.many + 1 : Nat) : Int))).heap.size by rw [World.size_setCell]; exact hb)
  have n1 : (s.many : Int) < 4611686018427387904 := by omega
  obtain ⟨k0, f0⟩ := hs.m0
  clear hs h hm hsg hb
  generalize fM x = M at *
  generalize eM x = E at *
  have t1 : ((E : Int) == 2047) = false := by simp; omega
  have t2 : ((E : Int) == 0) = false := by simp; omega
  have t3 : decide (0 < E) = true := decide_eq_true (by omega)
  have t4 : (1 : Int) ≤ (E : Int) := by omega
  have t5 : (E : Int) < 2047 := by omega
  have ev : (M : Int) + 4503599627370496 = ((M + 4503599627370496 : Nat) : Int) := by omega
  have ep : (E : Int) - 1 = ((E - 1 : Nat) : Int) := by omega
  have HV := Lib.hid (And.intro ev ep)
  have HM := Lib.hid (show U (M + 4503599627370496) by unfold U; omega)
  have HE := Lib.hid hE
  have m52 : (M : Int) < 4503599627370496 := by omega
  clear hE ev ep hM52
  go_enter Tryz.func87, Tryz.ntmps87
  go_wp2_with (first | (go_at_call 63; refine (x128 _ _).mono ?_; rintro e w' ⟨rfl, rfl⟩) | (go_at_call 89; fail))
  rw [HV.out.1, HV.out.2]
  refine (c166 b (o + 70) s.down (M + 4503599627370496) (E - 1) _ HM.out (by have := HE.out; omega) A.out.down HB.out).mono ?_
  rintro e w2 ⟨rfl, hr, ho⟩
  have A2 := Lib.hid (A.out.newDown hr ho)
  have O2 := Lib.hid (O.out.trans (ho.wide (by omega) (by omega)))
  clear hr ho
  go_wp2_with fail
  exact bodyPost_end (v := .tuple #[]) (results_none rfl _ _ _) rfl ⟨rfl, A2.out, O2.out⟩
theorem c113 (b o : Nat) (s : RS) (x : Nat) (w : World) (h : U x) (hs : SumAt w b o s) (hb : b < w.heap.size) (hm : s.many < 4611686018427387904 ∧ s.none < 4611686018427387904 ∧ s.high < 4611686018427387904 ∧ s.low < 4611686018427387904 ∧ s.cold < 4611686018427387904) :
    Calls Tryz.prog 87 #[.pointer (some ⟨b, o, Option.none⟩), .float .f64 x] w fun e w' => e = .returned (.tuple #[]) ∧ SumAt w' b o (addR s x) ∧ OnlyC b o (o + 145) w w' := by
  by_cases c1 : isN x = true
  · have h1 : fin x = false := by unfold isN at c1; unfold fin; have := of_decide_eq_true c1; exact decide_eq_false (by omega)
    have h2 : ¬ x = 9218868437227405312 := by rintro rfl; exact absurd c1 (by decide)
    have h3 : ¬ x = 18442240474082181120 := by rintro rfl; exact absurd c1 (by decide)
    have h4 : ¬ x = 9223372036854775808 := by rintro rfl; exact absurd c1 (by decide)
    have e : addR s x = { s with many := s.many + 1, none := s.none + 1 } := by
      unfold addR; simp [h1, h2, h3, h4, c1]
    rw [e]
    exact c113n b o s x w h c1 hs ⟨hm.1, hm.2.1⟩
  by_cases c2 : x = 9218868437227405312
  · have e : addR s x = { s with many := s.many + 1, high := s.high + 1 } := by
      subst c2; unfold addR; simp [show fin 9218868437227405312 = false by decide, show isN 9218868437227405312 = false by decide]
    rw [e]
    exact c113h b o s x w h c2 hs ⟨hm.1, hm.2.2.1⟩
  by_cases c3 : x = 18442240474082181120
  · have e : addR s x = { s with many := s.many + 1, low := s.low + 1 } := by
      subst c3; unfold addR; simp [show fin 18442240474082181120 = false by decide, show isN 18442240474082181120 = false by decide]
    rw [e]
    exact c113l b o s x w h c3 hs ⟨hm.1, hm.2.2.2.1⟩
  by_cases c4 : x = 9223372036854775808
  · have e : addR s x = { s with many := s.many + 1, cold := s.cold + 1 } := by
      subst c4; unfold addR; simp [show fin 9223372036854775808 = true by decide, show isN 9223372036854775808 = false by decide, show sg 9223372036854775808 = true by decide, show rg 9223372036854775808 = 0 by decide, val_zero]
    rw [e]
    exact c113c b o s x w h c4 hs ⟨hm.1, hm.2.2.2.2⟩
  by_cases c5 : x = 0
  · have e : addR s x = { s with many := s.many + 1 } := by
      subst c5; unfold addR; simp [show fin 0 = true by decide, show isN 0 = false by decide, show sg 0 = false by decide, show rg 0 = 0 by decide, val_zero]
    rw [e]
    exact c113z b o s x w h c5 hs hm.1
  have c1 : isN x = false := by simpa using c1
  have hf : fin x = true := by
    have h1 := isN_false c1
    have h2 := h.lt
    unfold fin
    refine decide_eq_true ?_
    unfold INF rg at *
    omega
  have hv := val_mm x
  cases hsg : sg x
  · have e : addR s x = { s with many := s.many + 1, up := s.up + mM x * 2 ^ mE x } := by
      unfold addR; simp [hf, c1, c2, c3, c4, hsg, hv]
    rw [e]
    by_cases hE : eM x = 0
    · exact c113fu0 b o s x w h hsg hE (by have h2 := h.lt; unfold sg at hsg; have := of_decide_eq_false hsg; unfold eM at hE; unfold fM; omega) hs hb hm.1
    · exact c113fu b o s x w h hsg ⟨by omega, by have := fin_true hf; unfold INF rg at this; unfold eM; omega⟩ hs hb hm.1
  · have e : addR s x = { s with many := s.many + 1, down := s.down + mM x * 2 ^ mE x } := by
      unfold addR; simp [hf, c1, c2, c3, c4, hsg, hv]
    rw [e]
    by_cases hE : eM x = 0
    · exact c113fd0 b o s x w h hsg hE (by have h2 := h.lt; unfold sg at hsg; have := of_decide_eq_true hsg; unfold eM at hE; unfold fM; omega) hs hb hm.1
    · exact c113fd b o s x w h hsg ⟨by omega, by have := fin_true hf; unfold INF rg at this; unfold eM; omega⟩ hs hb hm.1
end Go.Proofs.YthohhepoddnbnaaGreatDoor

namespace Go.Proofs.YthohhepoddnbnaaGreatDoor
open Go.RowKit Fl

/-- the words of a number, as a value -/
def UL (n : Nat) : List Value := (List.range 70).map fun i => .int .u32 ((dg n i : Nat) : Int)
theorem UL_len (n : Nat) : (UL n).length = 70 := by simp [UL]
theorem UL_get (n i : Nat) (h : i < 70) : (UL n)[i]? = some (.int .u32 ((dg n i : Nat) : Int)) := by simp [UL, h]
theorem size108 : (Tryz.prog.info? 80).map (·.size) = some 70 := by kernel_rfl
theorem UL_one (n : Nat) : (UL n).toArray.all (·.oneCell') = true := all_oneCell_toArray (fun v hv => by
  unfold UL at hv
  obtain ⟨i, _, rfl⟩ := List.mem_map.1 hv
  rfl)
theorem urow_new (w : World) (n : Nat) (t : TypeId) : URow (w.alloc (.cells (UL n).toArray t)) w.heap.size 0 (dg n) := fun j hj => by
  refine ⟨?_, by simp [go_sem]⟩
  rw [Nat.zero_add, World.cell?_alloc_new w (UL n).toArray t j, List.getElem?_toArray]
  exact UL_get n j hj
theorem URow.range {w : World} {b o n : Nat} (h : URow w b o (dg n)) : w.rangeAt b o (UL n) := fun j v hv => by
  have hj : j < 70 := by have := (List.getElem?_eq_some_iff.1 hv).1; rw [UL_len] at this; exact this
  rw [UL_get n j hj] at hv
  cases hv
  exact (h j hj).1
def RC : Nat := 70
theorem RC_eq : RC = 70 := rfl
/-- how two numbers stand -/
def cmpN (a b : Nat) : Int := if b < a then 1 else if a < b then -1 else 0
set_option maxRecDepth 100000 in
set_option maxHeartbeats 4000000 in
theorem c167 (a b : Nat) (w : World) (ha : a < 2 ^ (32 * RC)) (hb : b < 2 ^ (32 * RC)) : Calls Tryz.prog 51 #[.agg (UL a).toArray, .agg (UL b).toArray] w fun e w' => e = .returned (.int .i64 (cmpN a b)) ∧ Below w.heap.size w w' := by
  have R0 := Lib.hid (show URow ((w.alloc (.cells (UL a).toArray 80)).alloc (.cells (UL b).toArray 80)) w.heap.size 0 (dg a) from (urow_new w a 80).below ((Below.refl (w.alloc (.cells (UL a).toArray 80)).heap.size _).alloc (Nat.le_refl _) _) (by simp))
  have R1 := Lib.hid (show URow ((w.alloc (.cells (UL a).toArray 80)).alloc (.cells (UL b).toArray 80)) (w.heap.size + 1) 0 (dg b) by
    have := urow_new (w.alloc (.cells (UL a).toArray 80)) b 80
    rwa [World.size_alloc] at this)
  have B0 := Lib.hid (show Below w.heap.size w ((w.alloc (.cells (UL a).toArray 80)).alloc (.cells (UL b).toArray 80)) from ((Below.refl _ _).alloc (Nat.le_refl _) _).alloc (by simp) _)
  have HT := Lib.hid (show a / 2 ^ (32 * RC) = b / 2 ^ (32 * RC) by rw [Nat.div_eq_of_lt ha, Nat.div_eq_of_lt hb])
  clear ha hb
  go_enter Tryz.func51, Tryz.ntmps51
  go_wp2_with fail
  go_loopw [5] (fun ii wx => ∃ i : Nat, ii = .int .i64 ((i : Int) - 1) ∧ Hid (i ≤ 70) ∧ Hid (a / 2 ^ (32 * i) = b / 2 ^ (32 * i)) ∧ Hid (URow wx w.heap.size 0 (dg a) ∧ URow wx (w.heap.size + 1) 0 (dg b) ∧ Below w.heap.size w wx)) (fun ii _ => (intOf ii + 1).toNat)
  case atStart => exact ⟨RC, rfl, Lib.hid (by rw [RC_eq]; omega), HT, Lib.hid ⟨R0.out, R1.out, B0.out⟩⟩
  case round =>
    obtain ⟨i, rfl, hi, hT, hI⟩ := hrel
    clear R0 R1 B0
    rcases Nat.eq_zero_or_pos i with h0 | h0
    · subst h0
      have e : cmpN a b = 0 := by have := top_all a b hT.out; subst this; unfold cmpN; simp
      have E := Lib.hid e
      clear e
      rw [show (((0 : Nat) : Int) - 1) = -1 from rfl]
      go_wp2_with fail
      go_ret
      exact ⟨by rw [E.out]; rfl, hI.out.2.2⟩
    · obtain ⟨t, rfl⟩ : ∃ t, i = t + 1 := ⟨i - 1, by omega⟩
      have ht : t < 70 := by have := hi.out; omega
      have ej : ((t + 1 : Nat) : Int) - 1 = (t : Int) := by omega
      rw [ej]
      clear ej
      have T := top_step a b t hT.out
      have c0 := (hI.out.1 t ht).1
      have c1 := (hI.out.2.1 t ht).1
      rw [Nat.zero_add] at c0 c1
      have t0 : (0 : Int) ≤ (t : Int) := by omega
      have t70 : (t : Int) < 70 := by omega
      have HTT := Lib.hid ht
      rcases Nat.lt_trichotomy (dg b t) (dg a t) with c | c | c
      · have E := Lib.hid (show cmpN a b = 1 by unfold cmpN; rw [if_pos (T.1 c)])
        have q : decide (dg b t < dg a t) = true := decide_eq_true c
        have q2 : decide (dg a t < dg b t) = false := decide_eq_false (by omega)
        clear T c ht
        go_wp2_with fail
        go_quiet (fail)
        go_wp2_with fail
        go_ret
        exact ⟨by rw [E.out]; rfl, by first | exact Bd hI.out.2.2 _ | exact Bd (Bd hI.out.2.2 _) _⟩
      · have TT := Lib.hid (T.2.2 c.symm)
        have q : decide (dg b t < dg a t) = false := decide_eq_false (by omega)
        have q2 : decide (dg a t < dg b t) = false := decide_eq_false (by omega)
        clear T c ht
        go_wp2_with fail
        go_quiet (fail)
        go_wp2_with fail
        go_quiet (fail)
        go_wp2_with fail
        go_roundw
        case rel => exact ⟨t, rfl, Lib.hid (by have := HTT.out; omega), TT, Lib.hid ⟨fun j hj => hI.out.1 j hj, fun j hj => hI.out.2.1 j hj, by first | exact Bd hI.out.2.2 _ | exact Bd (Bd hI.out.2.2 _) _⟩⟩
        case measure => simp [intOf]
      · have E := Lib.hid (show cmpN a b = -1 by unfold cmpN; rw [if_neg (by have := T.2.1 c; omega), if_pos (T.2.1 c)])
        have q : decide (dg b t < dg a t) = false := decide_eq_false (by omega)
        have q2 : decide (dg a t < dg b t) = true := decide_eq_true c
        clear T c ht
        go_wp2_with fail
        go_quiet (fail)
        go_wp2_with fail
        go_quiet (fail)
        go_wp2_with fail
        go_ret
        exact ⟨by rw [E.out]; rfl, by first | exact Bd hI.out.2.2 _ | exact Bd (Bd hI.out.2.2 _) _⟩
end Go.Proofs.YthohhepoddnbnaaGreatDoor

namespace Go.Proofs.YthohhepoddnbnaaGreatDoor
open Go.RowKit Fl

def ZU : Array Value := Array.replicate 70 (.int .u32 0)
theorem urow_zero (w : World) : URow (w.alloc (.cells (Array.replicate 70 (.int .u32 0)) 80)) w.heap.size 0 (fun _ => 0) := fun j hj => by
  refine ⟨?_, by simp [go_sem]⟩
  rw [Nat.zero_add, World.cell?_alloc_new w (Array.replicate 70 (.int .u32 0)) 80 j]
  simp [hj]
theorem URow.there {w : World} {b o : Nat} {f : Nat → Nat} (h : URow w b o f) {n : Nat} (hn : n = 70) : w.there b o n := fun j hj => by
  rw [(h j (by omega)).1, (h j (by omega)).2]; exact ⟨rfl, rfl⟩
theorem URow.drew {w : World} {b o : Nat} {f : Nat → Nat} (h : URow w b o f) : URow w.drew b o f := fun j hj => h j hj
theorem wp_gen' {P : Program} {c : Code} {Q : Exit → Act → World → Prop} {a : Act} {w : World} (R : World → Prop) (h : R w) (k : ∀ wx, R wx → c.wp P Q a wx) : c.wp P Q a w := k w h
theorem URow.drewN {w : World} {b o : Nat} {f : Nat → Nat} (h : URow w b o f) (n : Nat) : URow (w.drewN n) b o f := fun j hj => h j hj
set_option maxRecDepth 100000 in
set_option maxHeartbeats 4000000 in
theorem c169 (a b : Nat) (w : World) (hba : b ≤ a) : Calls Tryz.prog 52 #[.agg (UL a).toArray, .agg (UL b).toArray] w fun e w' => e = .returned (.agg (UL (a - b)).toArray) ∧ Below w.heap.size w w' := by
  have HBA := Lib.hid hba
  clear hba
  go_enter Tryz.func52, Tryz.ntmps52
  go_upto_region 2 with fail
  refine wp_gen' (fun wx => Hid ((URow wx w.heap.size 0 (dg a) ∧ URow wx (w.heap.size + 1) 0 (dg b)) ∧ (URow wx (w.heap.size + 1 + 1) 0 (fun _ => 0) ∧ URow wx (w.heap.size + 1 + 1 + 1) 0 (fun _ => 0)) ∧ Below w.heap.size w wx)) ?_ ?_
  · have e1 : (w.alloc (.cells (UL a).toArray 80)).heap.size = w.heap.size + 1 := by simp
    have e2 : ((w.alloc (.cells (UL a).toArray 80)).alloc (.cells (UL b).toArray 80)).heap.size = w.heap.size + 1 + 1 := by simp
    have e3 : (((w.alloc (.cells (UL a).toArray 80)).alloc (.cells (UL b).toArray 80)).alloc (.cells (Array.replicate 70 (.int .u32 0)) 80)).heap.size = w.heap.size + 1 + 1 + 1 := by simp
    have r0 := urow_new w a 80
    have r1 := urow_new (w.alloc (.cells (UL a).toArray 80)) b 80
    have r2 := urow_zero ((w.alloc (.cells (UL a).toArray 80)).alloc (.cells (UL b).toArray 80))
    have r3 := urow_zero (((w.alloc (.cells (UL a).toArray 80)).alloc (.cells (UL b).toArray 80)).alloc (.cells (Array.replicate 70 (.int .u32 0)) 80))
    have al := fun (W : World) (o : Obj) => (Below.refl W.heap.size W).alloc (Nat.le_refl _) o
    rw [e1] at r1
    rw [e2] at r2
    rw [e3] at r3
    exact Lib.hid ⟨⟨((r0.below (al _ _) (by simp)).below (al _ _) (by simp <;> omega)).below (al _ _) (by simp <;> omega), (r1.below (al _ _) (by simp)).below (al _ _) (by simp <;> omega)⟩, ⟨r2.below (al _ _) (by simp), r3⟩, ((((Below.refl _ _).alloc (Nat.le_refl _) _).alloc (by simp) _).alloc (by simp <;> omega) _).alloc (by simp <;> omega) _⟩
  intro wc hW
  go_wp2_with fail
  go_loopw [6, 7] (fun cc ii wx => ∃ i : Nat, ii = .int .i64 (i : Nat) ∧ cc = .int .i64 ((br a b i : Nat) : Int) ∧ Hid (i ≤ 70) ∧ Hid ((URow wx w.heap.size 0 (dg a) ∧ URow wx (w.heap.size + 1) 0 (dg b)) ∧ (URow wx (w.heap.size + 1 + 1) 0 (fun _ => 0) ∧ URow wx (w.heap.size + 1 + 1 + 1) 0 (fun j => if j < i then dg (a - b) j else 0)) ∧ Below w.heap.size w wx)) (fun _ ii _ => 70 - (intOf ii).toNat)
  case atStart => exact ⟨0, rfl, by rw [br_zero]; rfl, Lib.hid (by omega), Lib.hid ⟨hW.out.1, ⟨hW.out.2.1.1, hW.out.2.1.2.congr (fun j _ => by rw [if_neg (by omega)])⟩, hW.out.2.2⟩⟩
  case round =>
    obtain ⟨i, rfl, rfl, hi, hI⟩ := hrel
    clear hW
    by_cases hlt : i < 70
    · have hki : (i : Int) < 70 := by omega
      have hi0 : (0 : Int) ≤ (i : Int) := by omega
      have HLT := Lib.hid hlt
      have c0 := (hI.out.1.1 i hlt).1
      have c1 := (hI.out.1.2 i hlt).1
      obtain ⟨c2, f2⟩ := hI.out.2.1.2 i hlt
      rw [Nat.zero_add] at c0 c1 c2 f2
      have d1 := dg_lt a i
      have d2 := dg_lt b i
      have d3 := br_le a b i
      have n1 : (dg a i : Int) < 4294967296 := by omega
      have n2 : (dg b i : Int) < 4294967296 := by omega
      have n3 : (br a b i : Int) ≤ 1 := by omega
      have HD := Lib.hid (And.intro (dg_sub a b i HBA.out) (And.intro (br_succ a b i) (And.intro d1 (And.intro d2 d3))))
      by_cases hc : dg a i < dg b i + br a b i
      · have q : (dg a i : Int) - (dg b i : Int) - (br a b i : Int) < 0 := by omega
        have HC := Lib.hid hc
        clear hc d1 d2 d3 hlt
        go_wp2_with fail
        go_quiet (fail)
        go_wp2_with fail
        go_roundw
        case rel =>
          have D := HD.out
          have hlt := HLT.out
          have hc := HC.out
          have e3 : (dg a i : Int) - (dg b i : Int) - (br a b i : Int) + 4294967296 = ((dg (a - b) i : Nat) : Int) := by rw [D.1]; omega
          have e4 : br a b (i + 1) = 1 := by rw [D.2.1]; exact if_pos hc
          rw [e3]
          have r3 := (hI.out.2.1.2.drewN nq).set i hlt (dg (a - b) i)
          rw [Nat.zero_add] at r3
          refine ⟨i + 1, by go_num, by rw [e4]; rfl, Lib.hid (by omega), Lib.hid ⟨⟨(hI.out.1.1.drewN nq).other _ _ (by show w.heap.size + 1 + 1 + 1 ≠ _; omega), (hI.out.1.2.drewN nq).other _ _ (by show w.heap.size + 1 + 1 + 1 ≠ _; omega)⟩, ⟨(hI.out.2.1.1.drewN nq).other _ _ (by show w.heap.size + 1 + 1 + 1 ≠ _; omega), r3.congr (fun j hj => ?_)⟩, (Bd hI.out.2.2 nq).setCell (by show w.heap.size ≤ w.heap.size + 1 + 1 + 1; omega) _⟩⟩
          by_cases hji : j = i
          · rw [if_pos hji, if_pos (by omega), hji]
          · rw [if_neg hji]
            by_cases hj2 : j < i
            · rw [if_pos hj2, if_pos (by omega)]
            · rw [if_neg hj2, if_neg (by omega)]
        case measure => have := HLT.out; simp [intOf]; omega
      · have q : decide ((dg a i : Int) - (dg b i : Int) - (br a b i : Int) < 0) = false := decide_eq_false (by omega)
        have q3 : (dg b i : Int) + (br a b i : Int) ≤ (dg a i : Int) := by omega
        have q4 : 0 ≤ (dg a i : Int) - (dg b i : Int) - (br a b i : Int) := by omega
        have HC := Lib.hid hc
        clear hc d1 d2 d3 hlt
        go_wp2_with fail
        go_quiet (fail)
        go_wp2_with fail
        go_roundw
        case rel =>
          have D := HD.out
          have hlt := HLT.out
          have hc := HC.out
          have e3 : (dg a i : Int) - (dg b i : Int) - (br a b i : Int) = ((dg (a - b) i : Nat) : Int) := by rw [D.1]; omega
          have e4 : br a b (i + 1) = 0 := by rw [D.2.1]; exact if_neg hc
          rw [e3]
          have r3 := (hI.out.2.1.2.drewN nq).set i hlt (dg (a - b) i)
          rw [Nat.zero_add] at r3
          refine ⟨i + 1, by go_num, by rw [e4]; rfl, Lib.hid (by omega), Lib.hid ⟨⟨(hI.out.1.1.drewN nq).other _ _ (by show w.heap.size + 1 + 1 + 1 ≠ _; omega), (hI.out.1.2.drewN nq).other _ _ (by show w.heap.size + 1 + 1 + 1 ≠ _; omega)⟩, ⟨(hI.out.2.1.1.drewN nq).other _ _ (by show w.heap.size + 1 + 1 + 1 ≠ _; omega), r3.congr (fun j hj => ?_)⟩, (Bd hI.out.2.2 nq).setCell (by show w.heap.size ≤ w.heap.size + 1 + 1 + 1; omega) _⟩⟩
          by_cases hji : j = i
          · rw [if_pos hji, if_pos (by omega), hji]
          · rw [if_neg hji]
            by_cases hj2 : j < i
            · rw [if_pos hj2, if_pos (by omega)]
            · rw [if_neg hj2, if_neg (by omega)]
        case measure => have := HLT.out; simp [intOf]; omega
    · have hki : ¬ (i : Int) < 70 := by omega
      have h70 : i = 70 := by have := hi.out; omega
      subst h70
      have RR := Lib.hid ((hI.out.2.1.2.congr (g := dg (a - b)) (fun j hj => by rw [if_pos hj])).range)
      have T0 := Lib.hid (hI.out.2.1.1.there (n := (UL (a - b)).toArray.size) (by rw [List.size_toArray, UL_len]))
      have T1 := Lib.hid (hI.out.2.1.1.there (n := (UL (a - b)).length) (UL_len _))
      have E1 := Lib.hid (show (Tryz.prog.info? 80).map (·.size) = some (UL (a - b)).length by rw [UL_len]; exact size108)
      have E2 := Lib.hid (show (Tryz.prog.info? 80).map (·.size) = some (UL (a - b)).toArray.size by rw [List.size_toArray, UL_len]; exact size108)
      have BB := Lib.hid (below_setCells hI.out.2.2 (show w.heap.size ≤ w.heap.size + 1 + 1 by omega) 0 (UL (a - b)))
      clear hlt hi hI
      go_wp2_with (first
        | (refine wpList_load_mid rfl 80 (.tmp 5) rfl (w.heap.size + 1 + 1 + 1) 0 rfl (UL (a - b)) _ RR.out Tryz.underlying80 rfl E1.out ?_)
        | (refine wpList_store_mid rfl 80 (.tmp 4) (.tmp 32) rfl (w.heap.size + 1 + 1) 0 (UL (a - b)).toArray rfl rfl T0.out E2.out (UL_one _) ?_))
      refine bodyPost_ret (v := .agg (UL (a - b)).toArray) (results_cell1 Tryz.results52 rfl (run_loadVar_mid (P := Tryz.prog) _ _ 0 80 (UL (a - b)) _ (World.rangeAt_setCells_same _ _ _ _ T1.out) Tryz.underlying80 rfl E1.out)) rfl ⟨rfl, BB.out⟩
end Go.Proofs.YthohhepoddnbnaaGreatDoor
