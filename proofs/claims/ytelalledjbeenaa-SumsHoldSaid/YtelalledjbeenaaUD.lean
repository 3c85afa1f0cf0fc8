/- A sum of the reference's: Add of any number: printed by u113f.py. -/
import Derived.Test.YtelalledjbeenaaMgUB
namespace Go.Proofs.Ytelalledjbeenaa
open Go.RowKit Fl

theorem OnlyC.wide {b lo hi lo' hi' : Nat} {w w' : World} (h : OnlyC b lo hi w w') (h1 : lo' ≤ lo) (h2 : hi ≤ hi') : OnlyC b lo' hi' w w' :=
  ⟨h.only, fun j hj => h.cell j (by omega), h.fro⟩
set_option maxRecDepth 100000 in
set_option maxHeartbeats 4000000 in
theorem c113fu0 (b o : Nat) (s : RS) (x : Nat) (w : World) (h : U x) (hsg : sg x = false) (hE : eM x = 0) (hM : 0 < fM x) (hs : SumAt w b o s) (hb : b < w.heap.size) (hm : s.many < 4611686018427387904) :
    Calls Try.prog 113 #[.pointer (some ⟨b, o, Option.none⟩), .float .f64 x] w fun e w' => e = .returned (.tuple #[]) ∧ SumAt w' b o { s with many := s.many + 1, up := s.up + mM x * 2 ^ mE x } ∧ OnlyC b o (o + 145) w w' := by
  have E1 := b_frac x h
  have E2 := b_exp x h
  have E3 := b_top x h
  rw [show x % 4503599627370496 = fM x from rfl] at E1
  rw [show x / 4503599627370496 % 2048 = eM x from rfl] at E2
  rw [hsg] at E3
  have hM52 : fM x < 4503599627370496 := by unfold fM; omega
  have hmm : mM x = fM x ∧ mE x = 0 := by unfold mM mE; rw [if_pos hE, if_pos hE]; exact ⟨rfl, rfl⟩
  rw [hmm.1, hmm.2]
  rw [hE] at E2
  have q : ((fM x : Nat) : Int) ≠ 0 := by omega
  have q2 : (((fM x : Nat) : Int) == 0) = false := by simp; omega
  clear hmm hE
  have A := Lib.hid (hs.set0 (s.many + 1))
  have O := Lib.hid ((OnlyC.refl b o (o + 145) w).set (k := o + 140) (by omega) (.int .i64 ((s.many + 1 : Nat) : Int)))
  have HB := Lib.hid (show b < (w.setCell ⟨b, o + 140, Option.none⟩ (.int .i64 ((s.many + 1 : Nat) : Int))).heap.size by rw [World.size_setCell]; exact hb)
  have n1 : (s.many : Int) < 4611686018427387904 := by omega
  obtain ⟨k0, f0⟩ := hs.m0
  clear hs h hm hsg hb
  generalize fM x = M at *
  have HM := Lib.hid (show U M by unfold U; omega)
  clear hM
  go_enter Try.func113, Try.ntmps113
  go_wp2_with (first | (go_at_call 128; refine (x128 _ _).mono ?_; rintro e w' ⟨rfl, rfl⟩) | (go_at_call 166; fail))

  refine (c166 b (o) s.up (M) (0) _ HM.out (by decide) A.out.up HB.out).mono ?_
  rintro e w2 ⟨rfl, hr, ho⟩
  have A2 := Lib.hid (A.out.newUp hr ho)
  have O2 := Lib.hid (O.out.trans (ho.wide (by omega) (by omega)))
  clear hr ho
  go_wp2_with fail
  exact bodyPost_end (v := .tuple #[]) (results_none rfl _ _ _) rfl ⟨rfl, A2.out, O2.out⟩
set_option maxRecDepth 100000 in
set_option maxHeartbeats 4000000 in
theorem c113fd0 (b o : Nat) (s : RS) (x : Nat) (w : World) (h : U x) (hsg : sg x = true) (hE : eM x = 0) (hM : 0 < fM x) (hs : SumAt w b o s) (hb : b < w.heap.size) (hm : s.many < 4611686018427387904) :
    Calls Try.prog 113 #[.pointer (some ⟨b, o, Option.none⟩), .float .f64 x] w fun e w' => e = .returned (.tuple #[]) ∧ SumAt w' b o { s with many := s.many + 1, down := s.down + mM x * 2 ^ mE x } ∧ OnlyC b o (o + 145) w w' := by
  have E1 := b_frac x h
  have E2 := b_exp x h
  have E3 := b_top x h
  rw [show x % 4503599627370496 = fM x from rfl] at E1
  rw [show x / 4503599627370496 % 2048 = eM x from rfl] at E2
  rw [hsg] at E3
  have hM52 : fM x < 4503599627370496 := by unfold fM; omega
  have hmm : mM x = fM x ∧ mE x = 0 := by unfold mM mE; rw [if_pos hE, if_pos hE]; exact ⟨rfl, rfl⟩
  rw [hmm.1, hmm.2]
  rw [hE] at E2
  have q : ((fM x : Nat) : Int) ≠ 0 := by omega
  have q2 : (((fM x : Nat) : Int) == 0) = false := by simp; omega
  clear hmm hE
  have A := Lib.hid (hs.set0 (s.many + 1))
  have O := Lib.hid ((OnlyC.refl b o (o + 145) w).set (k := o + 140) (by omega) (.int .i64 ((s.many + 1 : Nat) : Int)))
  have HB := Lib.hid (show b < (w.setCell ⟨b, o + 140, Option.none⟩ (.int .i64 ((s.many + 1 : Nat) : Int))).heap.size by rw [World.size_setCell]; exact hb)
  have n1 : (s.many : Int) < 4611686018427387904 := by omega
  obtain ⟨k0, f0⟩ := hs.m0
  clear hs h hm hsg hb
  generalize fM x = M at *
  have HM := Lib.hid (show U M by unfold U; omega)
  clear hM
  go_enter Try.func113, Try.ntmps113
  go_wp2_with (first | (go_at_call 128; refine (x128 _ _).mono ?_; rintro e w' ⟨rfl, rfl⟩) | (go_at_call 166; fail))

  refine (c166 b (o + 70) s.down (M) (0) _ HM.out (by decide) A.out.down HB.out).mono ?_
  rintro e w2 ⟨rfl, hr, ho⟩
  have A2 := Lib.hid (A.out.newDown hr ho)
  have O2 := Lib.hid (O.out.trans (ho.wide (by omega) (by omega)))
  clear hr ho
  go_wp2_with fail
  exact bodyPost_end (v := .tuple #[]) (results_none rfl _ _ _) rfl ⟨rfl, A2.out, O2.out⟩
set_option maxRecDepth 100000 in
set_option maxHeartbeats 4000000 in
theorem c113fu (b o : Nat) (s : RS) (x : Nat) (w : World) (h : U x) (hsg : sg x = false) (hE : 0 < eM x ∧ eM x < 2047) (hs : SumAt w b o s) (hb : b < w.heap.size) (hm : s.many < 4611686018427387904) :
    Calls Try.prog 113 #[.pointer (some ⟨b, o, Option.none⟩), .float .f64 x] w fun e w' => e = .returned (.tuple #[]) ∧ SumAt w' b o { s with many := s.many + 1, up := s.up + mM x * 2 ^ mE x } ∧ OnlyC b o (o + 145) w w' := by
  have E1 := b_frac x h
  have E2 := b_exp x h
  have E3 := b_top x h
  rw [show x % 4503599627370496 = fM x from rfl] at E1
  rw [show x / 4503599627370496 % 2048 = eM x from rfl] at E2
  rw [hsg] at E3
  have hM52 : fM x < 4503599627370496 := by unfold fM; omega
  have hmm : mM x = fM x + 4503599627370496 ∧ mE x = eM x - 1 := by unfold mM mE; rw [if_neg (by omega), if_neg (by omega)]; exact ⟨by omega, rfl⟩
  rw [hmm.1, hmm.2]
  clear hmm
  have A := Lib.hid (hs.set0 (s.many + 1))
  have O := Lib.hid ((OnlyC.refl b o (o + 145) w).set (k := o + 140) (by omega) (.int .i64 ((s.many + 1 : Nat) : Int)))
  have HB := Lib.hid (show b < (w.setCell ⟨b, o + 140, Option.none⟩ (.int .i64 ((s.many + 1 : Nat) : Int))).heap.size by rw [World.size_setCell]; exact hb)
  have n1 : (s.many : Int) < 4611686018427387904 := by omega
  obtain ⟨k0, f0⟩ := hs.m0
  clear hs h hm hsg hb
  generalize fM x = M at *
  generalize eM x = E at *
  have t1 : ((E : Int) == 2047) = false := by simp; omega
  have t2 : ((E : Int) == 0) = false := by simp; omega
  have t3 : decide (0 < E) = true := decide_eq_true (by omega)
  have t4 : (1 : Int) ≤ (E : Int) := by omega
  have t5 : (E : Int) < 2047 := by omega
  have ev : (M : Int) + 4503599627370496 = ((M + 4503599627370496 : Nat) : Int) := by omega
  have ep : (E : Int) - 1 = ((E - 1 : Nat) : Int) := by omega
  have HV := Lib.hid (And.intro ev ep)
  have HM := Lib.hid (show U (M + 4503599627370496) by unfold U; omega)
  have HE := Lib.hid hE
  have m52 : (M : Int) < 4503599627370496 := by omega
  clear hE ev ep hM52
  go_enter Try.func113, Try.ntmps113
  go_wp2_with (first | (go_at_call 128; refine (x128 _ _).mono ?_; rintro e w' ⟨rfl, rfl⟩) | (go_at_call 166; fail))
  rw [HV.out.1, HV.out.2]
  refine (c166 b (o) s.up (M + 4503599627370496) (E - 1) _ HM.out (by have := HE.out; omega) A.out.up HB.out).mono ?_
  rintro e w2 ⟨rfl, hr, ho⟩
  have A2 := Lib.hid (A.out.newUp hr ho)
  have O2 := Lib.hid (O.out.trans (ho.wide (by omega) (by omega)))
  clear hr ho
  go_wp2_with fail
  exact bodyPost_end (v := .tuple #[]) (results_none rfl _ _ _) rfl ⟨rfl, A2.out, O2.out⟩
set_option maxRecDepth 100000 in
set_option maxHeartbeats 4000000 in
theorem c113fd (b o : Nat) (s : RS) (x : Nat) (w : World) (h : U x) (hsg : sg x = true) (hE : 0 < eM x ∧ eM x < 2047) (hs : SumAt w b o s) (hb : b < w.heap.size) (hm : s.many < 4611686018427387904) :
    Calls Try.prog 113 #[.pointer (some ⟨b, o, Option.none⟩), .float .f64 x] w fun e w' => e = .returned (.tuple #[]) ∧ SumAt w' b o { s with many := s.many + 1, down := s.down + mM x * 2 ^ mE x } ∧ OnlyC b o (o + 145) w w' := by
  have E1 := b_frac x h
  have E2 := b_exp x h
  have E3 := b_top x h
  rw [show x % 4503599627370496 = fM x from rfl] at E1
  rw [show x / 4503599627370496 % 2048 = eM x from rfl] at E2
  rw [hsg] at E3
  have hM52 : fM x < 4503599627370496 := by unfold fM; omega
  have hmm : mM x = fM x + 4503599627370496 ∧ mE x = eM x - 1 := by unfold mM mE; rw [if_neg (by omega), if_neg (by omega)]; exact ⟨by omega, rfl⟩
  rw [hmm.1, hmm.2]
  clear hmm
  have A := Lib.hid (hs.set0 (s.many + 1))
  have O := Lib.hid ((OnlyC.refl b o (o + 145) w).set (k := o + 140) (by omega) (.int .i64 ((s.many + 1 : Nat) : Int)))
  have HB := Lib.hid (show b < (w.setCell ⟨b, o + 140, Option.none⟩ (.int .i64 ((s.many + 1 : Nat) : Int))).heap.size by rw [World.size_setCell]; exact hb)
  have n1 : (s.many : Int) < 4611686018427387904 := by omega
  obtain ⟨k0, f0⟩ := hs.m0
  clear hs h hm hsg hb
  generalize fM x = M at *
  generalize eM x = E at *
  have t1 : ((E : Int) == 2047) = false := by simp; omega
  have t2 : ((E : Int) == 0) = false := by simp; omega
  have t3 : decide (0 < E) = true := decide_eq_true (by omega)
  have t4 : (1 : Int) ≤ (E : Int) := by omega
  have t5 : (E : Int) < 2047 := by omega
  have ev : (M : Int) + 4503599627370496 = ((M + 4503599627370496 : Nat) : Int) := by omega
  have ep : (E : Int) - 1 = ((E - 1 : Nat) : Int) := by omega
  have HV := Lib.hid (And.intro ev ep)
  have HM := Lib.hid (show U (M + 4503599627370496) by unfold U; omega)
  have HE := Lib.hid hE
  have m52 : (M : Int) < 4503599627370496 := by omega
  clear hE ev ep hM52
  go_enter Try.func113, Try.ntmps113
  go_wp2_with (first | (go_at_call 128; refine (x128 _ _).mono ?_; rintro e w' ⟨rfl, rfl⟩) | (go_at_call 166; fail))
  rw [HV.out.1, HV.out.2]
  refine (c166 b (o + 70) s.down (M + 4503599627370496) (E - 1) _ HM.out (by have := HE.out; omega) A.out.down HB.out).mono ?_
  rintro e w2 ⟨rfl, hr, ho⟩
  have A2 := Lib.hid (A.out.newDown hr ho)
  have O2 := Lib.hid (O.out.trans (ho.wide (by omega) (by omega)))
  clear hr ho
  go_wp2_with fail
  exact bodyPost_end (v := .tuple #[]) (results_none rfl _ _ _) rfl ⟨rfl, A2.out, O2.out⟩
theorem c113 (b o : Nat) (s : RS) (x : Nat) (w : World) (h : U x) (hs : SumAt w b o s) (hb : b < w.heap.size) (hm : s.many < 4611686018427387904 ∧ s.none < 4611686018427387904 ∧ s.high < 4611686018427387904 ∧ s.low < 4611686018427387904 ∧ s.cold < 4611686018427387904) :
    Calls Try.prog 113 #[.pointer (some ⟨b, o, Option.none⟩), .float .f64 x] w fun e w' => e = .returned (.tuple #[]) ∧ SumAt w' b o (addR s x) ∧ OnlyC b o (o + 145) w w' := by
  by_cases c1 : isN x = true
  · have h1 : fin x = false := by unfold isN at c1; unfold fin; have := of_decide_eq_true c1; exact decide_eq_false (by omega)
    have h2 : ¬ x = 9218868437227405312 := by rintro rfl; exact absurd c1 (by decide)
    have h3 : ¬ x = 18442240474082181120 := by rintro rfl; exact absurd c1 (by decide)
    have h4 : ¬ x = 9223372036854775808 := by rintro rfl; exact absurd c1 (by decide)
    have e : addR s x = { s with many := s.many + 1, none := s.none + 1 } := by
      unfold addR; simp [h1, h2, h3, h4, c1]
    rw [e]
    exact c113n b o s x w h c1 hs ⟨hm.1, hm.2.1⟩
  by_cases c2 : x = 9218868437227405312
  · have e : addR s x = { s with many := s.many + 1, high := s.high + 1 } := by
      subst c2; unfold addR; simp [show fin 9218868437227405312 = false by decide, show isN 9218868437227405312 = false by decide]
    rw [e]
    exact c113h b o s x w h c2 hs ⟨hm.1, hm.2.2.1⟩
  by_cases c3 : x = 18442240474082181120
  · have e : addR s x = { s with many := s.many + 1, low := s.low + 1 } := by
      subst c3; unfold addR; simp [show fin 18442240474082181120 = false by decide, show isN 18442240474082181120 = false by decide]
    rw [e]
    exact c113l b o s x w h c3 hs ⟨hm.1, hm.2.2.2.1⟩
  by_cases c4 : x = 9223372036854775808
  · have e : addR s x = { s with many := s.many + 1, cold := s.cold + 1 } := by
      subst c4; unfold addR; simp [show fin 9223372036854775808 = true by decide, show isN 9223372036854775808 = false by decide, show sg 9223372036854775808 = true by decide, show rg 9223372036854775808 = 0 by decide, val_zero]
    rw [e]
    exact c113c b o s x w h c4 hs ⟨hm.1, hm.2.2.2.2⟩
  by_cases c5 : x = 0
  · have e : addR s x = { s with many := s.many + 1 } := by
      subst c5; unfold addR; simp [show fin 0 = true by decide, show isN 0 = false by decide, show sg 0 = false by decide, show rg 0 = 0 by decide, val_zero]
    rw [e]
    exact c113z b o s x w h c5 hs hm.1
  have c1 : isN x = false := by simpa using c1
  have hf : fin x = true := by
    have h1 := isN_false c1
    have h2 := h.lt
    unfold fin
    refine decide_eq_true ?_
    unfold INF rg at *
    omega
  have hv := val_mm x
  cases hsg : sg x
  · have e : addR s x = { s with many := s.many + 1, up := s.up + mM x * 2 ^ mE x } := by
      unfold addR; simp [hf, c1, c2, c3, c4, hsg, hv]
    rw [e]
    by_cases hE : eM x = 0
    · exact c113fu0 b o s x w h hsg hE (by have h2 := h.lt; unfold sg at hsg; have := of_decide_eq_false hsg; unfold eM at hE; unfold fM; omega) hs hb hm.1
    · exact c113fu b o s x w h hsg ⟨by omega, by have := fin_true hf; unfold INF rg at this; unfold eM; omega⟩ hs hb hm.1
  · have e : addR s x = { s with many := s.many + 1, down := s.down + mM x * 2 ^ mE x } := by
      unfold addR; simp [hf, c1, c2, c3, c4, hsg, hv]
    rw [e]
    by_cases hE : eM x = 0
    · exact c113fd0 b o s x w h hsg hE (by have h2 := h.lt; unfold sg at hsg; have := of_decide_eq_true hsg; unfold eM at hE; unfold fM; omega) hs hb hm.1
    · exact c113fd b o s x w h hsg ⟨by omega, by have := fin_true hf; unfold INF rg at this; unfold eM; omega⟩ hs hb hm.1
end Go.Proofs.Ytelalledjbeenaa
