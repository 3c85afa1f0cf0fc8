/- A sum of the reference's in memory: Add. A sum of the reference's: Add, case by case: printed by u113.py. A sum of the reference's: Add of any number: printed by u113f.py. -/
import Derived.Test.YthohhepoddnbnaaGreatDoorUA
import Derived.Test.YthohhepoddnbnaaGreatDoorMgAccF
namespace Go.Proofs.YthohhepoddnbnaaGreatDoor
open Go.RowKit Fl

/-- what a sum holds: the units above nought, below, how many numbers, that are none, infinities, noughts below -/
structure RS where
  up : Nat
  down : Nat
  many : Nat
  none : Nat
  high : Nat
  low : Nat
  cold : Nat
def RS.zero : RS := ⟨0, 0, 0, 0, 0, 0, 0⟩
/-- one cell of a number -/
def ICell (w : World) (b o : Nat) (n : Nat) : Prop := w.cell? ⟨b, o, Option.none⟩ = some (.int .i64 (n : Nat)) ∧ w.frozen? ⟨b, o, Option.none⟩ = false
structure SumAt (w : World) (b o : Nat) (s : RS) : Prop where
  up : URow w b o (dg s.up)
  down : URow w b (o + 70) (dg s.down)
  m0 : ICell w b (o + 140) s.many
  m1 : ICell w b (o + 141) s.none
  m2 : ICell w b (o + 142) s.high
  m3 : ICell w b (o + 143) s.low
  m4 : ICell w b (o + 144) s.cold
theorem ICell.set {w : World} {b o n : Nat} (h : ICell w b o n) (m : Nat) : ICell (w.setCell ⟨b, o, Option.none⟩ (.int .i64 (m : Nat))) b o m := ⟨World.cell?_setCell_same w _ _ h.1, (World.frozen?_setCell ..).trans h.2⟩
theorem ICell.other {w : World} {b o n : Nat} (h : ICell w b o n) {q : Nat} (hq : q ≠ o) (v : Value) : ICell (w.setCell ⟨b, q, Option.none⟩ v) b o n :=
  ⟨(World.cell?_setCell_other w _ _ _ (by intro e; injection e with _ e; exact hq e)).trans h.1, (World.frozen?_setCell ..).trans h.2⟩
theorem URow.apart {w : World} {b o : Nat} {f : Nat → Nat} (h : URow w b o f) {q : Nat} (hq : q < o ∨ o + 70 ≤ q) (v : Value) : URow (w.setCell ⟨b, q, Option.none⟩ v) b o f := fun j hj =>
  ⟨(World.cell?_setCell_other w _ _ _ (by intro e; injection e with _ e; omega)).trans (h j hj).1, (World.frozen?_setCell ..).trans (h j hj).2⟩
theorem SumAt.set0 {w : World} {b o : Nat} {s : RS} (h : SumAt w b o s) (n : Nat) : SumAt (w.setCell ⟨b, o + 140, Option.none⟩ (.int .i64 (n : Nat))) b o { s with many := n } :=
  ⟨h.up.apart (by omega) _, h.down.apart (by omega) _, h.m0.set n, h.m1.other (by omega) _, h.m2.other (by omega) _, h.m3.other (by omega) _, h.m4.other (by omega) _⟩
theorem SumAt.set1 {w : World} {b o : Nat} {s : RS} (h : SumAt w b o s) (n : Nat) : SumAt (w.setCell ⟨b, o + 141, Option.none⟩ (.int .i64 (n : Nat))) b o { s with none := n } :=
  ⟨h.up.apart (by omega) _, h.down.apart (by omega) _, h.m0.other (by omega) _, h.m1.set n, h.m2.other (by omega) _, h.m3.other (by omega) _, h.m4.other (by omega) _⟩
theorem SumAt.set2 {w : World} {b o : Nat} {s : RS} (h : SumAt w b o s) (n : Nat) : SumAt (w.setCell ⟨b, o + 142, Option.none⟩ (.int .i64 (n : Nat))) b o { s with high := n } :=
  ⟨h.up.apart (by omega) _, h.down.apart (by omega) _, h.m0.other (by omega) _, h.m1.other (by omega) _, h.m2.set n, h.m3.other (by omega) _, h.m4.other (by omega) _⟩
theorem SumAt.set3 {w : World} {b o : Nat} {s : RS} (h : SumAt w b o s) (n : Nat) : SumAt (w.setCell ⟨b, o + 143, Option.none⟩ (.int .i64 (n : Nat))) b o { s with low := n } :=
  ⟨h.up.apart (by omega) _, h.down.apart (by omega) _, h.m0.other (by omega) _, h.m1.other (by omega) _, h.m2.other (by omega) _, h.m3.set n, h.m4.other (by omega) _⟩
theorem SumAt.set4 {w : World} {b o : Nat} {s : RS} (h : SumAt w b o s) (n : Nat) : SumAt (w.setCell ⟨b, o + 144, Option.none⟩ (.int .i64 (n : Nat))) b o { s with cold := n } :=
  ⟨h.up.apart (by omega) _, h.down.apart (by omega) _, h.m0.other (by omega) _, h.m1.other (by omega) _, h.m2.other (by omega) _, h.m3.other (by omega) _, h.m4.set n⟩
theorem ICell.only {w w' : World} {b lo hi o n : Nat} (h : ICell w b o n) (k : OnlyC b lo hi w w') (ho : o < lo ∨ hi ≤ o) : ICell w' b o n := ⟨(k.cell o ho).trans h.1, (k.fro o).trans h.2⟩
theorem URow.only {w w' : World} {b lo hi o : Nat} {f : Nat → Nat} (h : URow w b o f) (k : OnlyC b lo hi w w') (ho : o + 70 ≤ lo ∨ hi ≤ o) : URow w' b o f := fun j hj =>
  ⟨(k.cell (o + j) (by omega)).trans (h j hj).1, (k.fro (o + j)).trans (h j hj).2⟩
theorem SumAt.newUp {w w' : World} {b o n : Nat} {s : RS} (h : SumAt w b o s) (hu : URow w' b o (dg n)) (k : OnlyC b o (o + 70) w w') : SumAt w' b o { s with up := n } :=
  ⟨hu, h.down.only k (by omega), h.m0.only k (by omega), h.m1.only k (by omega), h.m2.only k (by omega), h.m3.only k (by omega), h.m4.only k (by omega)⟩
theorem SumAt.newDown {w w' : World} {b o n : Nat} {s : RS} (h : SumAt w b o s) (hu : URow w' b (o + 70) (dg n)) (k : OnlyC b (o + 70) (o + 140) w w') : SumAt w' b o { s with down := n } :=
  ⟨h.up.only k (by omega), hu, h.m0.only k (by omega), h.m1.only k (by omega), h.m2.only k (by omega), h.m3.only k (by omega), h.m4.only k (by omega)⟩
/-- a sum and a number more -/
def addR (s : RS) (x : Nat) : RS :=
  ⟨s.up + (if fin x = true ∧ sg x = false then val 52 (rg x) else 0), s.down + (if fin x = true ∧ sg x = true then val 52 (rg x) else 0), s.many + 1, s.none + (if isN x then 1 else 0),
   s.high + (if x = 9218868437227405312 then 1 else 0), s.low + (if x = 18442240474082181120 then 1 else 0), s.cold + (if x = 9223372036854775808 then 1 else 0)⟩
end Go.Proofs.YthohhepoddnbnaaGreatDoor

namespace Go.Proofs.YthohhepoddnbnaaGreatDoor
open Go.RowKit Fl

theorem b_top (x : Nat) (h : U x) : ((x : Int) / 9223372036854775808 == 1) = sg x := by
  have := h.lt
  unfold sg
  rw [Bool.eq_iff_iff]
  simp
  omega
set_option maxRecDepth 100000 in
set_option maxHeartbeats 4000000 in
theorem c113n (b o : Nat) (s : RS) (x : Nat) (w : World) (h : U x) (hx : isN x = true) (hs : SumAt w b o s) (hm : s.many < 4611686018427387904 ∧ s.none < 4611686018427387904) :
    Calls Tryz.prog 87 #[.pointer (some ⟨b, o, Option.none⟩), .float .f64 x] w fun e w' => e = .returned (.tuple #[]) ∧ SumAt w' b o { s with many := s.many + 1, none := s.none + 1 } ∧ OnlyC b o (o + 145) w w' := by
  have E1 := b_frac x h
  have E2 := b_exp x h
  have E3 := b_top x h
  rw [show x % 4503599627370496 = fM x from rfl] at E1
  rw [show x / 4503599627370496 % 2048 = eM x from rfl] at E2
  have hE : eM x = 2047 ∧ 0 < fM x := by
    unfold isN INF rg at hx
    have := of_decide_eq_true hx
    have := h.lt
    unfold eM fM
    omega
  rw [hE.1] at E2
  have q : decide (0 < fM x) = true := decide_eq_true hE.2
  clear hE
  have A := Lib.hid ((hs.set0 (s.many + 1)).set1 (s.none + 1))
  have O := Lib.hid (((OnlyC.refl b o (o + 145) w).set (k := o + 140) (by omega) (.int .i64 ((s.many + 1 : Nat) : Int))).set (k := o + 141) (by omega) (.int .i64 ((s.none + 1 : Nat) : Int)))
  have n1 : (s.many : Int) < 4611686018427387904 := by omega
  have n2 : (s.none : Int) < 4611686018427387904 := by omega
  obtain ⟨k0, f0⟩ := hs.m0
  obtain ⟨k1, f1⟩ := hs.m1
  clear hs h hm hx
  generalize sg x = sx at *
  generalize fM x = M at *
  go_enter Tryz.func87, Tryz.ntmps87
  go_wp2_with (go_at_call 63; refine (x128 _ _).mono ?_; rintro e w' ⟨rfl, rfl⟩)
  exact bodyPost_end (v := .tuple #[]) (results_none rfl _ _ _) rfl ⟨rfl, A.out, O.out⟩
set_option maxRecDepth 100000 in
set_option maxHeartbeats 4000000 in
theorem c113h (b o : Nat) (s : RS) (x : Nat) (w : World) (h : U x) (hx : x = 9218868437227405312) (hs : SumAt w b o s) (hm : s.many < 4611686018427387904 ∧ s.high < 4611686018427387904) :
    Calls Tryz.prog 87 #[.pointer (some ⟨b, o, Option.none⟩), .float .f64 x] w fun e w' => e = .returned (.tuple #[]) ∧ SumAt w' b o { s with many := s.many + 1, high := s.high + 1 } ∧ OnlyC b o (o + 145) w w' := by
  have E1 := b_frac x h
  have E2 := b_exp x h
  have E3 := b_top x h
  rw [show x % 4503599627370496 = fM x from rfl] at E1
  rw [show x / 4503599627370496 % 2048 = eM x from rfl] at E2
  have hE : eM x = 2047 ∧ fM x = 0 ∧ sg x = false := by subst hx; decide
  rw [hE.1] at E2
  rw [hE.2.1] at E1
  rw [hE.2.2] at E3
  clear hE
  have A := Lib.hid ((hs.set0 (s.many + 1)).set2 (s.high + 1))
  have O := Lib.hid (((OnlyC.refl b o (o + 145) w).set (k := o + 140) (by omega) (.int .i64 ((s.many + 1 : Nat) : Int))).set (k := o + 142) (by omega) (.int .i64 ((s.high + 1 : Nat) : Int)))
  have n1 : (s.many : Int) < 4611686018427387904 := by omega
  have n2 : (s.high : Int) < 4611686018427387904 := by omega
  obtain ⟨k0, f0⟩ := hs.m0
  obtain ⟨k1, f1⟩ := hs.m2
  clear hs h hm hx
  go_enter Tryz.func87, Tryz.ntmps87
  go_wp2_with (go_at_call 63; refine (x128 _ _).mono ?_; rintro e w' ⟨rfl, rfl⟩)
  exact bodyPost_end (v := .tuple #[]) (results_none rfl _ _ _) rfl ⟨rfl, A.out, O.out⟩
set_option maxRecDepth 100000 in
set_option maxHeartbeats 4000000 in
theorem c113l (b o : Nat) (s : RS) (x : Nat) (w : World) (h : U x) (hx : x = 18442240474082181120) (hs : SumAt w b o s) (hm : s.many < 4611686018427387904 ∧ s.low < 4611686018427387904) :
    Calls Tryz.prog 87 #[.pointer (some ⟨b, o, Option.none⟩), .float .f64 x] w fun e w' => e = .returned (.tuple #[]) ∧ SumAt w' b o { s with many := s.many + 1, low := s.low + 1 } ∧ OnlyC b o (o + 145) w w' := by
  have E1 := b_frac x h
  have E2 := b_exp x h
  have E3 := b_top x h
  rw [show x % 4503599627370496 = fM x from rfl] at E1
  rw [show x / 4503599627370496 % 2048 = eM x from rfl] at E2
  have hE : eM x = 2047 ∧ fM x = 0 ∧ sg x = true := by subst hx; decide
  rw [hE.1] at E2
  rw [hE.2.1] at E1
  rw [hE.2.2] at E3
  clear hE
  have A := Lib.hid ((hs.set0 (s.many + 1)).set3 (s.low + 1))
  have O := Lib.hid (((OnlyC.refl b o (o + 145) w).set (k := o + 140) (by omega) (.int .i64 ((s.many + 1 : Nat) : Int))).set (k := o + 143) (by omega) (.int .i64 ((s.low + 1 : Nat) : Int)))
  have n1 : (s.many : Int) < 4611686018427387904 := by omega
  have n2 : (s.low : Int) < 4611686018427387904 := by omega
  obtain ⟨k0, f0⟩ := hs.m0
  obtain ⟨k1, f1⟩ := hs.m3
  clear hs h hm hx
  go_enter Tryz.func87, Tryz.ntmps87
  go_wp2_with (go_at_call 63; refine (x128 _ _).mono ?_; rintro e w' ⟨rfl, rfl⟩)
  exact bodyPost_end (v := .tuple #[]) (results_none rfl _ _ _) rfl ⟨rfl, A.out, O.out⟩
set_option maxRecDepth 100000 in
set_option maxHeartbeats 4000000 in
theorem c113c (b o : Nat) (s : RS) (x : Nat) (w : World) (h : U x) (hx : x = 9223372036854775808) (hs : SumAt w b o s) (hm : s.many < 4611686018427387904 ∧ s.cold < 4611686018427387904) :
    Calls Tryz.prog 87 #[.pointer (some ⟨b, o, Option.none⟩), .float .f64 x] w fun e w' => e = .returned (.tuple #[]) ∧ SumAt w' b o { s with many := s.many + 1, cold := s.cold + 1 } ∧ OnlyC b o (o + 145) w w' := by
  have E1 := b_frac x h
  have E2 := b_exp x h
  have E3 := b_top x h
  rw [show x % 4503599627370496 = fM x from rfl] at E1
  rw [show x / 4503599627370496 % 2048 = eM x from rfl] at E2
  have hE : eM x = 0 ∧ fM x = 0 ∧ sg x = true := by subst hx; decide
  rw [hE.1] at E2
  rw [hE.2.1] at E1
  rw [hE.2.2] at E3
  clear hE
  have A := Lib.hid ((hs.set0 (s.many + 1)).set4 (s.cold + 1))
  have O := Lib.hid (((OnlyC.refl b o (o + 145) w).set (k := o + 140) (by omega) (.int .i64 ((s.many + 1 : Nat) : Int))).set (k := o + 144) (by omega) (.int .i64 ((s.cold + 1 : Nat) : Int)))
  have n1 : (s.many : Int) < 4611686018427387904 := by omega
  have n2 : (s.cold : Int) < 4611686018427387904 := by omega
  obtain ⟨k0, f0⟩ := hs.m0
  obtain ⟨k1, f1⟩ := hs.m4
  clear hs h hm hx
  go_enter Tryz.func87, Tryz.ntmps87
  go_wp2_with (go_at_call 63; refine (x128 _ _).mono ?_; rintro e w' ⟨rfl, rfl⟩)
  exact bodyPost_end (v := .tuple #[]) (results_none rfl _ _ _) rfl ⟨rfl, A.out, O.out⟩
set_option maxRecDepth 100000 in
set_option maxHeartbeats 4000000 in
theorem c113z (b o : Nat) (s : RS) (x : Nat) (w : World) (h : U x) (hx : x = 0) (hs : SumAt w b o s) (hm : s.many < 4611686018427387904) :
    Calls Tryz.prog 87 #[.pointer (some ⟨b, o, Option.none⟩), .float .f64 x] w fun e w' => e = .returned (.tuple #[]) ∧ SumAt w' b o { s with many := s.many + 1 } ∧ OnlyC b o (o + 145) w w' := by
  have E1 := b_frac x h
  have E2 := b_exp x h
  have E3 := b_top x h
  rw [show x % 4503599627370496 = fM x from rfl] at E1
  rw [show x / 4503599627370496 % 2048 = eM x from rfl] at E2
  have hE : eM x = 0 ∧ fM x = 0 ∧ sg x = false := by subst hx; decide
  rw [hE.1] at E2
  rw [hE.2.1] at E1
  rw [hE.2.2] at E3
  clear hE
  have A := Lib.hid ((hs.set0 (s.many + 1)))
  have O := Lib.hid ((OnlyC.refl b o (o + 145) w).set (k := o + 140) (by omega) (.int .i64 ((s.many + 1 : Nat) : Int)))
  have n1 : (s.many : Int) < 4611686018427387904 := by omega

  obtain ⟨k0, f0⟩ := hs.m0

  clear hs h hm hx
  go_enter Tryz.func87, Tryz.ntmps87
  go_wp2_with (go_at_call 63; refine (x128 _ _).mono ?_; rintro e w' ⟨rfl, rfl⟩)
  exact bodyPost_end (v := .tuple #[]) (results_none rfl _ _ _) rfl ⟨rfl, A.out, O.out⟩
end Go.Proofs.YthohhepoddnbnaaGreatDoor

namespace Go.Proofs.YthohhepoddnbnaaGreatDoor
open Go.RowKit Fl

theorem OnlyC.wide {b lo hi lo' hi' : Nat} {w w' : World} (h : OnlyC b lo hi w w') (h1 : lo' ≤ lo) (h2 : hi ≤ hi') : OnlyC b lo' hi' w w' :=
  ⟨h.only, fun j hj => h.cell j (by omega), h.fro⟩
set_option maxRecDepth 100000 in
set_option maxHeartbeats 4000000 in
theorem c113fu0 (b o : Nat) (s : RS) (x : Nat) (w : World) (h : U x) (hsg : sg x = false) (hE : eM x = 0) (hM : 0 < fM x) (hs : SumAt w b o s) (hb : b < w.heap.size) (hm : s.many < 4611686018427387904) :
    Calls Tryz.prog 87 #[.pointer (some ⟨b, o, Option.none⟩), .float .f64 x] w fun e w' => e = .returned (.tuple #[]) ∧ SumAt w' b o { s with many := s.many + 1, up := s.up + mM x * 2 ^ mE x } ∧ OnlyC b o (o + 145) w w' := by
  have E1 := b_frac x h
  have E2 := b_exp x h
  have E3 := b_top x h
  rw [show x % 4503599627370496 = fM x from rfl] at E1
  rw [show x / 4503599627370496 % 2048 = eM x from rfl] at E2
  rw [hsg] at E3
  have hM52 : fM x < 4503599627370496 := by unfold fM; omega
  have hmm : mM x = fM x ∧ mE x = 0 := by unfold mM mE; rw [if_pos hE, if_pos hE]; exact ⟨rfl, rfl⟩
  rw [hmm.1, hmm.2]
  rw [hE] at E2
  have q : ((fM x : Nat) : Int) ≠ 0 := by omega
  have q2 : (((fM x : Nat) : Int) == 0) = false := by simp; omega
  clear hmm hE
  have A := Lib.hid (hs.set0 (s.many + 1))
  have O := Lib.hid ((OnlyC.refl b o (o + 145) w).set (k := o + 140) (by omega) (.int .i64 ((s.many + 1 : Nat) : Int)))
  have HB := Lib.hid (show b < (w.setCell ⟨b, o + 140, Option.none⟩ (.int .i64 ((s.many + 1 : Nat) : Int))).heap.size by rw [World.size_setCell]; exact hb)
  have n1 : (s.many : Int) < 4611686018427387904 := by omega
  obtain ⟨k0, f0⟩ := hs.m0
  clear hs h hm hsg hb
  generalize fM x = M at *
  have HM := Lib.hid (show U M by unfold U; omega)
  clear hM
  go_enter Tryz.func87, Tryz.ntmps87
  go_wp2_with (first | (go_at_call 63; refine (x128 _ _).mono ?_; rintro e w' ⟨rfl, rfl⟩) | (go_at_call 89; fail))

  refine (c166 b (o) s.up (M) (0) _ HM.out (by decide) A.out.up HB.out).mono ?_
  rintro e w2 ⟨rfl, hr, ho⟩
  have A2 := Lib.hid (A.out.newUp hr ho)
  have O2 := Lib.hid (O.out.trans (ho.wide (by omega) (by omega)))
  clear hr ho
  go_wp2_with fail
  exact bodyPost_end (v := .tuple #[]) (results_none rfl _ _ _) rfl ⟨rfl, A2.out, O2.out⟩
set_option maxRecDepth 100000 in
set_option maxHeartbeats 4000000 in
theorem c113fd0 (b o : Nat) (s : RS) (x : Nat) (w : World) (h : U x) (hsg : sg x = true) (hE : eM x = 0) (hM : 0 < fM x) (hs : SumAt w b o s) (hb : b < w.heap.size) (hm : s.many < 4611686018427387904) :
    Calls Tryz.prog 87 #[.pointer (some ⟨b, o, Option.none⟩), .float .f64 x] w fun e w' => e = .returned (.tuple #[]) ∧ SumAt w' b o { s with many := s.many + 1, down := s.down + mM x * 2 ^ mE x } ∧ OnlyC b o (o + 145) w w' := by
  have E1 := b_frac x h
  have E2 := b_exp x h
  have E3 := b_top x h
  rw [show x % 4503599627370496 = fM x from rfl] at E1
  rw [show x / 4503599627370496 % 2048 = eM x from rfl] at E2
  rw [hsg] at E3
  have hM52 : fM x < 4503599627370496 := by unfold fM; omega
  have hmm : mM x = fM x ∧ mE x = 0 := by unfold mM mE; rw [if_pos hE, if_pos hE]; exact ⟨rfl, rfl⟩
  rw [hmm.1, hmm.2]
  rw [hE] at E2
  have q : ((fM x : Nat) : Int) ≠ 0 := by omega
  have q2 : (((fM x : Nat) : Int) == 0) = false := by simp; omega
  clear hmm hE
  have A := Lib.hid (hs.set0 (s.many + 1))
  have O := Lib.hid ((OnlyC.refl b o (o + 145) w).set (k := o + 140) (by omega) (.int .i64 ((s.many + 1 : Nat) : Int)))
  have HB := Lib.hid (show b < (w.setCell ⟨b, o + 140, Option.none⟩ (.int .i64 ((s.many + 1 : Nat) : Int))).heap.size by rw [World.size_setCell]; exact hb)
  have n1 : (s.many : Int) < 4611686018427387904 := by omega
  obtain ⟨k0, f0⟩ := hs.m0
  clear hs h hm hsg hb
  generalize fM x = M at *
  have HM := Lib.hid (show U M by unfold U; omega)
  clear hM
  go_enter Tryz.func87, Tryz.ntmps87
  go_wp2_with (first | (go_at_call 63; refine (x128 _ _).mono ?_; rintro e w' ⟨rfl, rfl⟩) | (go_at_call 89; fail))

  refine (c166 b (o + 70) s.down (M) (0) _ HM.out (by decide) A.out.down HB.out).mono ?_
  rintro e w2 ⟨rfl, hr, ho⟩
  have A2 := Lib.hid (A.out.newDown hr ho)
  have O2 := Lib.hid (O.out.trans (ho.wide (by omega) (by omega)))
  clear hr ho
  go_wp2_with fail
  exact bodyPost_end (v := .tuple #[]) (results_none rfl _ _ _) rfl ⟨rfl, A2.out, O2.out⟩
set_option maxRecDepth 100000 in
set_option maxHeartbeats 4000000 in
theorem c113fu (b o : Nat) (s : RS) (x : Nat) (w : World) (h : U x) (hsg : sg x = false) (hE : 0 < eM x ∧ eM x < 2047) (hs : SumAt w b o s) (hb : b < w.heap.size) (hm : s.many < 4611686018427387904) :
    Calls Tryz.prog 87 #[.pointer (some ⟨b, o, Option.none⟩), .float .f64 x] w fun e w' => e = .returned (.tuple #[]) ∧ SumAt w' b o { s with many := s.many + 1, up := s.up + mM x * 2 ^ mE x } ∧ OnlyC b o (o + 145) w w' := by
  have E1 := b_frac x h
  have E2 := b_exp x h
  have E3 := b_top x h
  rw [show x % 4503599627370496 = fM x from rfl] at E1
  rw [show x / 4503599627370496 % 2048 = eM x from rfl] at E2
  rw [hsg] at E3
  have hM52 : fM x < 4503599627370496 := by unfold fM; omega
  have hmm : mM x = fM x + 4503599627370496 ∧ mE x = eM x - 1 := by unfold mM mE; rw [if_neg (by omega), if_neg (by omega)]; exact ⟨by omega, rfl⟩
  rw [hmm.1, hmm.2]
  clear hmm
  have A := Lib.hid (hs.set0 (s.many + 1))
  have O := Lib.hid ((OnlyC.refl b o (o + 145) w).set (k := o + 140) (by omega) (.int .i64 ((s.many + 1 : Nat) : Int)))
  have HB := Lib.hid (show b < (w.setCell ⟨b, o + 140, Option.none⟩ (.int .i64 ((s.many + 1 : Nat) : Int))).heap.size by rw [World.size_setCell]; exact hb)
  have n1 : (s.many : Int) < 4611686018427387904 := by omega
  obtain ⟨k0, f0⟩ := hs.m0
  clear hs h hm hsg hb
  generalize fM x = M at *
  generalize eM x = E at *
  have t1 : ((E : Int) == 2047) = false := by simp; omega
  have t2 : ((E : Int) == 0) = false := by simp; omega
  have t3 : decide (0 < E) = true := decide_eq_true (by omega)
  have t4 : (1 : Int) ≤ (E : Int) := by omega
  have t5 : (E : Int) < 2047 := by omega
  have ev : (M : Int) + 4503599627370496 = ((M + 4503599627370496 : Nat) : Int) := by omega
  have ep : (E : Int) - 1 = ((E - 1 : Nat) : Int) := by omega
  have HV := Lib.hid (And.intro ev ep)
  have HM := Lib.hid (show U (M + 4503599627370496) by unfold U; omega)
  have HE := Lib.hid hE
  have m52 : (M : Int) < 4503599627370496 := by omega
  clear hE ev ep hM52
  go_enter Tryz.func87, Tryz.ntmps87
  go_wp2_with (first | (go_at_call 63; refine (x128 _ _).mono ?_; rintro e w' ⟨rfl, rfl⟩) | (go_at_call 89; fail))
  rw [HV.out.1, HV.out.2]
  refine (c166 b (o) s.up (M + 4503599627370496) (E - 1) _ HM.out (by have := HE.out; omega) A.out.up HB.out).mono ?_
  rintro e w2 ⟨rfl, hr, ho⟩
  have A2 := Lib.hid (A.out.newUp hr ho)
  have O2 := Lib.hid (O.out.trans (ho.wide (by omega) (by omega)))
  clear hr ho
  go_wp2_with fail
  exact bodyPost_end (v := .tuple #[]) (results_none rfl _ _ _) rfl ⟨rfl, A2.out, O2.out⟩
set_option maxRecDepth 100000 in
set_option maxHeartbeats 4000000 in
theorem c113fd (b o : Nat) (s : RS) (x : Nat) (w : World) (h : U x) (hsg : sg x = true) (hE : 0 < eM x ∧ eM x < 2047) (hs : SumAt w b o s) (hb : b < w.heap.size) (hm : s.many < 4611686018427387904) :
    Calls Tryz.prog 87 #[.pointer (some ⟨b, o, Option.none⟩), .float .f64 x] w fun e w' => e = .returned (.tuple #[]) ∧ SumAt w' b o { s with many := s.many + 1, down := s.down + mM x * 2 ^ mE x } ∧ OnlyC b o (o + 145) w w' := by
  have E1 := b_frac x h
  have E2 := b_exp x h
  have E3 := b_top x h
  rw [show x % 4503599627370496 = fM x from rfl] at E1
  rw [show x / 4503599627370496 % 2048 = eM x from rfl] at E2
  rw [hsg] at E3
  have hM52 : fM x < 4503599627370496 := by unfold fM; omega
  have hmm : mM x = fM x + 4503599627370496 ∧ mE x = eM x - 1 := by unfold mM mE; rw [if_neg (by omega), if_neg (by omega)]; exact ⟨by omega, rfl⟩
  rw [hmm.1, hmm.2]
  clear hmm
  have A := Lib.hid (hs.set0 (s.many + 1))
  have O := Lib.hid ((OnlyC.refl b o (o + 145) w).set (k := o + 140) (by omega) (.int .i64 ((s.many + 1 : Nat) : Int)))
  have HB := Lib.hid (show b < (w.setCell ⟨b, o + 140, Option.none⟩ (.int .i64 ((s.many + 1 : Nat) : Int))).heap.size by rw [World.size_setCell]; exact hb)
  have n1 : (s.many : Int) < 4611686018427387904 := by omega
  obtain ⟨k0, f0⟩ := hs.m0
  clear hs h hm hsg hb
  generalize fM x = M at *
  generalize eM x = E at *
  have t1 : ((E : Int) == 2047) = false := by simp; omega
  have t2 : ((E : Int) == 0) = false := by simp; omega
  have t3 : decide (0 < E) = true := decide_eq_true (by omega)
  have t4 : (1 : Int) ≤ (E : Int) := by omega
  have t5 : (E : Int) < 2047 := by omega
  have ev : (M : Int) + 4503599627370496 = ((M + 4503599627370496 : Nat) : Int) := by omega
  have ep : (E : Int) - 1 = ((E - 1 : Nat) : Int) := by omega
  have HV := Lib.hid (And.intro ev ep)
  have HM := Lib.hid (show U (M + 4503599627370496) by unfold U; omega)
  have HE := Lib.hid hE
  have m52 : (M : Int) < 4503599627370496 := by omega
  clear hE ev ep hM52
  go_enter Tryz.func87, Tryz.ntmps87
  go_wp2_with (first | (go_at_call 63; refine (x128 _ _).mono ?_; rintro e w' ⟨rfl, rfl⟩) | (go_at_call 89; fail))
  rw [HV.out.1, HV.out.2]
  refine (c166 b (o + 70) s.down (M + 4503599627370496) (E - 1) _ HM.out (by have := HE.out; omega) A.out.down HB.out).mono ?_
  rintro e w2 ⟨rfl, hr, ho⟩
  have A2 := Lib.hid (A.out.newDown hr ho)
  have O2 := Lib.hid (O.out.trans (ho.wide (by omega) (by omega)))
  clear hr ho
  go_wp2_with fail
  exact bodyPost_end (v := .tuple #[]) (results_none rfl _ _ _) rfl ⟨rfl, A2.out, O2.out⟩
theorem c113 (b o : Nat) (s : RS) (x : Nat) (w : World) (h : U x) (hs : SumAt w b o s) (hb : b < w.heap.size) (hm : s.many < 4611686018427387904 ∧ s.none < 4611686018427387904 ∧ s.high < 4611686018427387904 ∧ s.low < 4611686018427387904 ∧ s.cold < 4611686018427387904) :
    Calls Tryz.prog 87 #[.pointer (some ⟨b, o, Option.none⟩), .float .f64 x] w fun e w' => e = .returned (.tuple #[]) ∧ SumAt w' b o (addR s x) ∧ OnlyC b o (o + 145) w w' := by
  by_cases c1 : isN x = true
  · have h1 : fin x = false := by unfold isN at c1; unfold fin; have := of_decide_eq_true c1; exact decide_eq_false (by omega)
    have h2 : ¬ x = 9218868437227405312 := by rintro rfl; exact absurd c1 (by decide)
    have h3 : ¬ x = 18442240474082181120 := by rintro rfl; exact absurd c1 (by decide)
    have h4 : ¬ x = 9223372036854775808 := by rintro rfl; exact absurd c1 (by decide)
    have e : addR s x = { s with many := s.many + 1, none := s.none + 1 } := by
      unfold addR; simp [h1, h2, h3, h4, c1]
    rw [e]
    exact c113n b o s x w h c1 hs ⟨hm.1, hm.2.1⟩
  by_cases c2 : x = 9218868437227405312
  · have e : addR s x = { s with many := s.many + 1, high := s.high + 1 } := by
      subst c2; unfold addR; simp [show fin 9218868437227405312 = false by decide, show isN 9218868437227405312 = false by decide]
    rw [e]
    exact c113h b o s x w h c2 hs ⟨hm.1, hm.2.2.1⟩
  by_cases c3 : x = 18442240474082181120
  · have e : addR s x = { s with many := s.many + 1, low := s.low + 1 } := by
      subst c3; unfold addR; simp [show fin 18442240474082181120 = false by decide, show isN 18442240474082181120 = false by decide]
    rw [e]
    exact c113l b o s x w h c3 hs ⟨hm.1, hm.2.2.2.1⟩
  by_cases c4 : x = 9223372036854775808
  · have e : addR s x = { s with many := s.many + 1, cold := s.cold + 1 } := by
      subst c4; unfold addR; simp [show fin 9223372036854775808 = true by decide, show isN 9223372036854775808 = false by decide, show sg 9223372036854775808 = true by decide, show rg 9223372036854775808 = 0 by decide, val_zero]
    rw [e]
    exact c113c b o s x w h c4 hs ⟨hm.1, hm.2.2.2.2⟩
  by_cases c5 : x = 0
  · have e : addR s x = { s with many := s.many + 1 } := by
      subst c5; unfold addR; simp [show fin 0 = true by decide, show isN 0 = false by decide, show sg 0 = false by decide, show rg 0 = 0 by decide, val_zero]
    rw [e]
    exact c113z b o s x w h c5 hs hm.1
  have c1 : isN x = false := by simpa using c1
  have hf : fin x = true := by
    have h1 := isN_false c1
    have h2 := h.lt
    unfold fin
    refine decide_eq_true ?_
    unfold INF rg at *
    omega
  have hv := val_mm x
  cases hsg : sg x
  · have e : addR s x = { s with many := s.many + 1, up := s.up + mM x * 2 ^ mE x } := by
      unfold addR; simp [hf, c1, c2, c3, c4, hsg, hv]
    rw [e]
    by_cases hE : eM x = 0
    · exact c113fu0 b o s x w h hsg hE (by have h2 := h.lt; unfold sg at hsg; have := of_decide_eq_false hsg; unfold eM at hE; unfold fM; omega) hs hb hm.1
    · exact c113fu b o s x w h hsg ⟨by omega, by have := fin_true hf; unfold INF rg at this; unfold eM; omega⟩ hs hb hm.1
  · have e : addR s x = { s with many := s.many + 1, down := s.down + mM x * 2 ^ mE x } := by
      unfold addR; simp [hf, c1, c2, c3, c4, hsg, hv]
    rw [e]
    by_cases hE : eM x = 0
    · exact c113fd0 b o s x w h hsg hE (by have h2 := h.lt; unfold sg at hsg; have := of_decide_eq_true hsg; unfold eM at hE; unfold fM; omega) hs hb hm.1
    · exact c113fd b o s x w h hsg ⟨by omega, by have := fin_true hf; unfold INF rg at this; unfold eM; omega⟩ hs hb hm.1
end Go.Proofs.YthohhepoddnbnaaGreatDoor
