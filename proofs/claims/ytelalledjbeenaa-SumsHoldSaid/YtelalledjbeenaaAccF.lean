/- An Acc: Add. -/
import Derived.Test.YtelalledjbeenaaAccE
import Derived.Test.YtelalledjbeenaaAccD
namespace Go.Proofs.Ytelalledjbeenaa
open Go.RowKit Fl

/-- an Acc and a number more -/
def addS (s : AS) (x : Nat) : AS :=
  ⟨if fin x then s.z + un x else s.z, s.nan || isN x, s.pos || decide (x = 9218868437227405312), s.neg || decide (x = 18442240474082181120), s.any || decide (x ≠ 9223372036854775808)⟩

set_option maxRecDepth 100000 in
set_option maxHeartbeats 1000000 in
theorem c37n (b : Nat) (s : AS) (x : Nat) (w : World) (h : U x) (hx : isN x = true) (hs : AccAt w b s) (hb : b < w.heap.size) :
    Calls Try.prog 37 #[.pointer (some ⟨b, 0, none⟩), .float .f64 x] w fun e w' => e = .returned (.tuple #[]) ∧ AccAt w' b (addS s x) ∧ Only b w w' := by
  have hne : x ≠ 9223372036854775808 := by rintro rfl; exact absurd hx (by decide)
  have e1 : ((x : Int) != 9223372036854775808) = true := by simp; omega
  have hP : addS s x = ⟨s.z, true, s.pos, s.neg, true⟩ := by
    have h1 : fin x = false := by unfold isN at hx; unfold fin; have := of_decide_eq_true hx; exact decide_eq_false (by omega)
    have h2 : ¬ x = 9218868437227405312 := by rintro rfl; exact absurd hx (by decide)
    have h3 : ¬ x = 18442240474082181120 := by rintro rfl; exact absurd hx (by decide)
    unfold addS; rw [h1, hx, decide_eq_false h2, decide_eq_false h3, decide_eq_true hne]; simp
  have A := Lib.hid ((hs.set3 true).set0 true)
  have O := Lib.hid (((Only.refl b w).setCell (o := 43) (.bool true)).setCell (o := 40) (.bool true))
  have HU := Lib.hid h
  have HN := Lib.hid hx
  have HP := Lib.hid hP
  obtain ⟨_, k0, k1, k2, k3, f0, f1, f2, f3⟩ := hs
  clear hne h hx hP
  go_enter Try.func37, Try.ntmps37
  go_wp2_with (first | (go_at_call 128; refine (x128 _ _).mono ?_; rintro e w' ⟨rfl, rfl⟩) | (go_at_call 129; refine (c129 x _ HU.out).mono ?_; rintro e w' ⟨rfl, rfl⟩; rw [HN.out]))
  refine bodyPost_ret (v := .tuple #[]) (by simp [results, Try.results37, go_sem]) rfl ⟨rfl, ?_, ?_⟩
  · rw [HP.out]; exact A.out
  · exact O.out

set_option maxRecDepth 100000 in
set_option maxHeartbeats 1000000 in
theorem c37ip (b : Nat) (s : AS) (w : World) (hs : AccAt w b s) :
    Calls Try.prog 37 #[.pointer (some ⟨b, 0, none⟩), .float .f64 9218868437227405312] w fun e w' => e = .returned (.tuple #[]) ∧ AccAt w' b (addS s 9218868437227405312) ∧ Only b w w' := by
  have hP : addS s 9218868437227405312 = ⟨s.z, s.nan, s.pos || true, s.neg || false, true⟩ := by
    unfold addS
    rw [show fin 9218868437227405312 = false by decide, show isN 9218868437227405312 = false by decide, Bool.or_false]
    simp
  have A := Lib.hid (((hs.set3 true).set1 (s.pos || true)).set2 (s.neg || false))
  have O := Lib.hid ((((Only.refl b w).setCell (o := 43) (.bool true)).setCell (o := 41) (.bool (s.pos || true))).setCell (o := 42) (.bool (s.neg || false)))
  have hu : U 9218868437227405312 := by unfold U; decide
  have g1 : (FloatKind.f64.format.order 9218868437227405312 0 == some Ordering.gt) = true := by decide
  have g2 : (FloatKind.f64.format.order 9218868437227405312 0 == some Ordering.lt) = false := by decide
  have HP := Lib.hid hP
  have h2 : isN 9218868437227405312 = false := by decide
  have h3 : isI 9218868437227405312 = true := by decide
  have HU := Lib.hid (And.intro hu (And.intro h2 h3))
  obtain ⟨_, k0, k1, k2, k3, f0, f1, f2, f3⟩ := hs
  clear hP hu h2 h3
  obtain ⟨z, nan, pos, neg, any⟩ := s
  simp only at k0 k1 k2 k3 A O HP
  cases pos <;> cases neg
  all_goals
    go_enter Try.func37, Try.ntmps37
    go_wp2_with (first | (go_at_call 128; refine (x128 _ _).mono ?_; rintro e w' ⟨rfl, rfl⟩) | (go_at_call 129; refine (c129 _ _ HU.out.1).mono ?_; rintro e w' ⟨rfl, rfl⟩; rw [HU.out.2.1]) | (go_at_call 130; refine (c130 _ _ HU.out.1).mono ?_; rintro e w' ⟨rfl, rfl⟩; rw [HU.out.2.2]))
    refine bodyPost_ret (v := .tuple #[]) (by simp [results, Try.results37, go_sem]) rfl ⟨rfl, ?_, ?_⟩
    · rw [HP.out]; exact A.out
    · exact O.out

set_option maxRecDepth 100000 in
set_option maxHeartbeats 1000000 in
theorem c37im (b : Nat) (s : AS) (w : World) (hs : AccAt w b s) :
    Calls Try.prog 37 #[.pointer (some ⟨b, 0, none⟩), .float .f64 18442240474082181120] w fun e w' => e = .returned (.tuple #[]) ∧ AccAt w' b (addS s 18442240474082181120) ∧ Only b w w' := by
  have hP : addS s 18442240474082181120 = ⟨s.z, s.nan, s.pos || false, s.neg || true, true⟩ := by
    unfold addS
    rw [show fin 18442240474082181120 = false by decide, show isN 18442240474082181120 = false by decide, Bool.or_false]
    simp
  have A := Lib.hid (((hs.set3 true).set1 (s.pos || false)).set2 (s.neg || true))
  have O := Lib.hid ((((Only.refl b w).setCell (o := 43) (.bool true)).setCell (o := 41) (.bool (s.pos || false))).setCell (o := 42) (.bool (s.neg || true)))
  have hu : U 18442240474082181120 := by unfold U; decide
  have g1 : (FloatKind.f64.format.order 18442240474082181120 0 == some Ordering.gt) = false := by decide
  have g2 : (FloatKind.f64.format.order 18442240474082181120 0 == some Ordering.lt) = true := by decide
  have HP := Lib.hid hP
  have h2 : isN 18442240474082181120 = false := by decide
  have h3 : isI 18442240474082181120 = true := by decide
  have HU := Lib.hid (And.intro hu (And.intro h2 h3))
  obtain ⟨_, k0, k1, k2, k3, f0, f1, f2, f3⟩ := hs
  clear hP hu h2 h3
  obtain ⟨z, nan, pos, neg, any⟩ := s
  simp only at k0 k1 k2 k3 A O HP
  cases pos <;> cases neg
  all_goals
    go_enter Try.func37, Try.ntmps37
    go_wp2_with (first | (go_at_call 128; refine (x128 _ _).mono ?_; rintro e w' ⟨rfl, rfl⟩) | (go_at_call 129; refine (c129 _ _ HU.out.1).mono ?_; rintro e w' ⟨rfl, rfl⟩; rw [HU.out.2.1]) | (go_at_call 130; refine (c130 _ _ HU.out.1).mono ?_; rintro e w' ⟨rfl, rfl⟩; rw [HU.out.2.2]))
    refine bodyPost_ret (v := .tuple #[]) (by simp [results, Try.results37, go_sem]) rfl ⟨rfl, ?_, ?_⟩
    · rw [HP.out]; exact A.out
    · exact O.out
end Go.Proofs.Ytelalledjbeenaa
