/- A sum of the reference's: Value. -/
import Derived.Test.YtelalledjbeenaaUI
import Derived.Test.YtelalledjbeenaaUJ
import Derived.Test.YtelalledjbeenaaUD
import Derived.Test.YtelalledjbeenaaMgAccI
namespace Go.Proofs.Ytelalledjbeenaa
open Go.RowKit Fl

theorem ICell.below {w w' : World} {b o n B : Nat} (h : ICell w b o n) (hb : Below B w w') (hB : b < B) : ICell w' b o n :=
  ⟨(hb.cell (p := ⟨b, o, Option.none⟩) hB).trans h.1, (hb.frozen (p := ⟨b, o, Option.none⟩) hB).trans h.2⟩
theorem SumAt.below {w w' : World} {b o B : Nat} {s : RS} (h : SumAt w b o s) (hb : Below B w w') (hB : b < B) : SumAt w' b o s :=
  ⟨h.up.below hb hB, h.down.below hb hB, h.m0.below hb hB, h.m1.below hb hB, h.m2.below hb hB, h.m3.below hb hB, h.m4.below hb hB⟩
theorem SumAt.drew {w : World} {b o : Nat} {s : RS} (h : SumAt w b o s) : SumAt w.drew b o s :=
  ⟨fun j hj => h.up j hj, fun j hj => h.down j hj, h.m0, h.m1, h.m2, h.m3, h.m4⟩
theorem len108 (n : Nat) : (Try.prog.info? 108).map (·.size) = some (UL n).length := by rw [UL_len]; exact size108

set_option maxRecDepth 100000 in
set_option maxHeartbeats 1000000 in
/-- no number -/
theorem c115n (b o : Nat) (s : RS) (w : World) (hs : SumAt w b o s) (h : 0 < s.none ∨ (0 < s.high ∧ 0 < s.low)) :
    Calls Try.prog 115 #[.pointer (some ⟨b, o, Option.none⟩)] w fun e w' => RetF (pV (accOf s)) e ∧ Below w.heap.size w w' := by
  have e : pV (accOf s) = 9223372036854775807 := by
    unfold pV accOf
    rw [if_pos (by simpa using h)]
  rw [e]
  clear e
  have hq : RetF 9223372036854775807 (.returned (.float .f64 QN)) := ⟨QN, rfl, by unfold U QN; decide, by decide⟩
  have H := Lib.hid hq
  clear hq
  obtain ⟨k1, f1⟩ := hs.m1
  obtain ⟨k2, f2⟩ := hs.m2
  obtain ⟨k3, f3⟩ := hs.m3
  clear hs
  obtain ⟨up, down, many, none, high, low, cold⟩ := s
  simp only at h k1 k2 k3
  by_cases h1 : 0 < none
  · have q1 : (0 : Int) < (none : Int) := by omega
    have q2 : decide (0 < none) = true := decide_eq_true h1
    clear h h1
    go_enter Try.func115, Try.ntmps115
    go_wp2_with (go_at_call 135; refine (c135 _).mono ?_; rintro e w' ⟨rfl, rfl⟩)
    go_ret
    exact ⟨H.out, Below.refl _ _⟩
  · have h0 : none = 0 := by omega
    subst h0
    have h2 : 0 < high := by omega
    have h3 : 0 < low := by omega
    have q1 : (0 : Int) < (high : Int) := by omega
    have q2 : decide (0 < high) = true := decide_eq_true h2
    have q3 : (0 : Int) < (low : Int) := by omega
    have q4 : decide (0 < low) = true := decide_eq_true h3
    have k1 : w.cell? ⟨b, o + 141, Option.none⟩ = some (.int .i64 0) := k1
    clear h h1 h2 h3
    go_enter Try.func115, Try.ntmps115
    go_wp2_with (go_at_call 135; refine (c135 _).mono ?_; rintro e w' ⟨rfl, rfl⟩)
    go_ret
    exact ⟨H.out, Below.refl _ _⟩
set_option maxRecDepth 100000 in
set_option maxHeartbeats 1000000 in
/-- infinite -/
theorem c115i (b o : Nat) (s : RS) (w : World) (hs : SumAt w b o s) (h : s.none = 0) (h2 : (0 < s.high ∧ s.low = 0) ∨ (s.high = 0 ∧ 0 < s.low)) :
    Calls Try.prog 115 #[.pointer (some ⟨b, o, Option.none⟩)] w fun e w' => RetF (pV (accOf s)) e ∧ Below w.heap.size w w' := by
  have hp : RetF 9218868437227405312 (.returned (.float .f64 9218868437227405312)) := ⟨_, rfl, by unfold U; decide, by decide⟩
  have hn : RetF (-9218868437227405313) (.returned (.float .f64 18442240474082181120)) := ⟨_, rfl, by unfold U; decide, by decide⟩
  have HP := Lib.hid hp
  have HN := Lib.hid hn
  clear hp hn
  obtain ⟨k1, f1⟩ := hs.m1
  obtain ⟨k2, f2⟩ := hs.m2
  obtain ⟨k3, f3⟩ := hs.m3
  clear hs
  obtain ⟨up, down, many, none, high, low, cold⟩ := s
  simp only at h h2 k1 k2 k3
  subst h
  have k1 : w.cell? ⟨b, o + 141, Option.none⟩ = some (.int .i64 0) := k1
  rcases h2 with ⟨h2, rfl⟩ | ⟨rfl, h2⟩
  · have k3 : w.cell? ⟨b, o + 143, Option.none⟩ = some (.int .i64 0) := k3
    have q1 : (0 : Int) < (high : Int) := by omega
    have q2 : decide (0 < high) = true := decide_eq_true h2
    have e : pV (accOf ⟨up, down, many, 0, high, 0, cold⟩) = 9218868437227405312 := by
      unfold pV accOf; simp [h2]
    rw [e]
    clear e h2
    go_enter Try.func115, Try.ntmps115
    go_wp2_with (go_at_call 137; refine (c137p _).mono ?_; rintro e w' ⟨rfl, rfl⟩)
    go_ret
    exact ⟨HP.out, Below.refl _ _⟩
  · have k2 : w.cell? ⟨b, o + 142, Option.none⟩ = some (.int .i64 0) := k2
    have q1 : (0 : Int) < (low : Int) := by omega
    have q2 : decide (0 < low) = true := decide_eq_true h2
    have e : pV (accOf ⟨up, down, many, 0, 0, low, cold⟩) = -9218868437227405313 := by
      unfold pV accOf; simp [h2]
    rw [e]
    clear e h2
    go_enter Try.func115, Try.ntmps115
    go_wp2_with (go_at_call 137; refine (c137n _).mono ?_; rintro e w' ⟨rfl, rfl⟩)
    go_ret
    exact ⟨HN.out, Below.refl _ _⟩
def C115 (w : World) (b o : Nat) (s : RS) (w' : World) : Prop := SumAt w' b o s ∧ Below w.heap.size w w' ∧ b < w'.heap.size
theorem C115.drew {w w' : World} {b o : Nat} {s : RS} (h : C115 w b o s w') : C115 w b o s { w' with drawn := w'.drawn + 1 } := ⟨h.1.drew, Bd h.2.1 1, h.2.2⟩
theorem C115.below {w w' w2 : World} {b o : Nat} {s : RS} (h : C115 w b o s w') (hb : Below w'.heap.size w' w2) : C115 w b o s w2 :=
  ⟨h.1.below hb h.2.2, h.2.1.trans (hb.mono h.2.1.size), Nat.lt_of_lt_of_le h.2.2 hb.size⟩
/-- what the calls of Value answer: the rest of x less y, and its rounding -/
def G115 (d : Nat) (f : FuncId) (_ : Array Value) (v : Value) : Prop := (f = 169 → v = .agg (UL d).toArray) ∧ (f = 168 → ∃ r, v = .float .f64 r ∧ U r ∧ pl r = (rnd d : Nat))
set_option maxRecDepth 100000 in
set_option maxHeartbeats 4000000 in
/-- finite -/
theorem c115f (b o : Nat) (s : RS) (w : World) (hs : SumAt w b o s) (hb : b < w.heap.size) (h1 : s.none = 0) (h2 : s.high = 0) (h3 : s.low = 0) (hu : s.up < 2 ^ (32 * RC)) (hd : s.down < 2 ^ (32 * RC)) :
    Calls Try.prog 115 #[.pointer (some ⟨b, o, Option.none⟩)] w fun e w' => RetF (pV (accOf s)) e ∧ Below w.heap.size w w' := by
  have HS := Lib.hid (show C115 w b o s w from ⟨hs, Below.refl _ _, hb⟩)
  have HU := Lib.hid (And.intro hu hd)
  have k1 : w.cell? ⟨b, o + 141, Option.none⟩ = some (.int .i64 0) := by rw [hs.m1.1, h1]; rfl
  have k2 : w.cell? ⟨b, o + 142, Option.none⟩ = some (.int .i64 0) := by rw [hs.m2.1, h2]; rfl
  have k3 : w.cell? ⟨b, o + 143, Option.none⟩ = some (.int .i64 0) := by rw [hs.m3.1, h3]; rfl
  obtain ⟨P, hP⟩ : ∃ P, P = pV (accOf s) := ⟨_, rfl⟩
  have hP2 : P = if s.up < s.down then -(rnd (s.down - s.up) : Int) - 1 else if rnd (s.up - s.down) = 0 ∧ s.cold = s.many then -1 else (rnd (s.up - s.down) : Int) := by
    rw [hP]
    unfold pV accOf
    rw [h1, h2, h3]
    simp only [Nat.lt_irrefl, decide_false, Bool.false_and, Bool.or_false, Bool.false_eq_true, if_false]
    by_cases c : s.up < s.down
    · rw [if_pos c, if_pos (by omega), show ((s.up : Int) - (s.down : Int)).natAbs = s.down - s.up by omega]
    · rw [if_neg c, if_neg (by omega), show ((s.up : Int) - (s.down : Int)).natAbs = s.up - s.down by omega]
      by_cases d : s.cold = s.many
      · rw [show decide (s.cold ≠ s.many) = false from decide_eq_false (fun h => h d)]; simp [d]
      · rw [show decide (s.cold ≠ s.many) = true from decide_eq_true d]; simp [d]
  rw [← hP]
  have HP := Lib.hid hP2
  clear hs hb h1 h2 h3 hu hd hP hP2
  go_enter Try.func115, Try.ntmps115
  go_upto_region 7 with fail
  clear k1 k2 k3
  refine wp_gen' (fun wx => Hid (C115 w b o s wx)) HS ?_
  intro wc hC
  clear HS
  go_cut [46] (fun v wx => v = .int .i64 (cmpN s.up s.down) ∧ Hid (C115 w b o s wx))
  case first =>
    refine wp_region_rel 9 (C115 w b o s) (fun _ _ v => v = .int .i64 (cmpN s.up s.down)) (by kernel_rfl) (by kernel_rfl) hC.out.drew ?_
    simp only [List.take_succ_cons, List.take_zero, List.drop_succ_cons, List.drop_zero]
    refine rel_move (v := .pointer (some ⟨b, o, Option.none⟩)) rfl rfl ?_
    simp only [Act.put, List.setIfInBounds_toArray, List.set_cons_succ, List.set_cons_zero]
    refine rel_val (v := .pointer (some ⟨b, o, Option.none⟩)) rfl (fun w' hw => by go_simp) ?_
    simp only [Act.put, List.setIfInBounds_toArray, List.set_cons_succ, List.set_cons_zero]
    refine rel_val (v := .pointer (some ⟨b, o, Option.none⟩)) rfl (fun w' hw => by go_simp) ?_
    simp only [Act.put, List.setIfInBounds_toArray, List.set_cons_succ, List.set_cons_zero]
    refine rel_load_row b o (UL s.up) _ rfl rfl (fun w' hw => hw.1.up.range) Try.underlying108 rfl (len108 _) ?_
    simp only [Act.put, List.setIfInBounds_toArray, List.set_cons_succ, List.set_cons_zero]
    refine rel_move (v := .pointer (some ⟨b, o, Option.none⟩)) rfl rfl ?_
    simp only [Act.put, List.setIfInBounds_toArray, List.set_cons_succ, List.set_cons_zero]
    refine rel_val (v := .pointer (some ⟨b, o, Option.none⟩)) rfl (fun w' hw => by go_simp) ?_
    simp only [Act.put, List.setIfInBounds_toArray, List.set_cons_succ, List.set_cons_zero]
    refine rel_val (v := .pointer (some ⟨b, o + 70, Option.none⟩)) rfl (fun w' hw => by go_simp) ?_
    simp only [Act.put, List.setIfInBounds_toArray, List.set_cons_succ, List.set_cons_zero]
    refine rel_load_row b (o + 70) (UL s.down) _ rfl rfl (fun w' hw => hw.1.down.range) Try.underlying108 rfl (len108 _) ?_
    simp only [Act.put, List.setIfInBounds_toArray, List.set_cons_succ, List.set_cons_zero]
    refine rel_call (f := 167) (args := #[.agg (UL s.up).toArray, .agg (UL s.down).toArray]) rfl (fun w' hw => by go_simp) (fun w' hw => ?_) (fun v hv => ?_)
    · refine (c167 s.up s.down w' HU.out.1 HU.out.2).mono ?_
      rintro y w'' ⟨rfl, hb2⟩
      exact ⟨_, rfl, rfl, hw.below hb2⟩
    rw [hv]
    simp only [Act.put, List.setIfInBounds_toArray, List.set_cons_succ, List.set_cons_zero]
    refine rel_nil ?_
    intro w3 hC3
    have HC3 := Lib.hid hC3
    clear hC3 hC
    go_wp2_with fail
    go_meet
    exact ⟨rfl, HC3⟩
  case rest =>
    obtain ⟨rfl, hC2⟩ := hcut
    clear hC
    have hneg : ∀ (b : Nat) (w : World), (Op.unary .neg (.float .f64 b)).run Try.prog w = .ok (.float .f64 (Op.negFloat .f64 b)) w := fun _ _ => rfl
    rcases Nat.lt_trichotomy s.down s.up with c | c | c
    · have HC := Lib.hid c
      rw [show cmpN s.up s.down = 1 from if_pos c]
      clear c
      go_upto_region 9 with fail
      refine wp_region_rel 11 (C115 w b o s) (G115 (s.up - s.down)) (by kernel_rfl) (by kernel_rfl) hC2.out.drew ?_
      simp only [List.take_succ_cons, List.take_zero, List.drop_succ_cons, List.drop_zero]
      refine rel_move (v := .pointer (some ⟨b, o, Option.none⟩)) rfl rfl ?_
      simp only [Act.put, List.setIfInBounds_toArray, List.set_cons_succ, List.set_cons_zero]
      refine rel_val (v := .pointer (some ⟨b, o, Option.none⟩)) rfl (fun w' hw => by go_simp) ?_
      simp only [Act.put, List.setIfInBounds_toArray, List.set_cons_succ, List.set_cons_zero]
      refine rel_val (v := .pointer (some ⟨b, o, Option.none⟩)) rfl (fun w' hw => by go_simp) ?_
      simp only [Act.put, List.setIfInBounds_toArray, List.set_cons_succ, List.set_cons_zero]
      refine rel_load_row b o (UL s.up) _ rfl rfl (fun w' hw => hw.1.up.range) Try.underlying108 rfl (len108 _) ?_
      simp only [Act.put, List.setIfInBounds_toArray, List.set_cons_succ, List.set_cons_zero]
      refine rel_move (v := .pointer (some ⟨b, o, Option.none⟩)) rfl rfl ?_
      simp only [Act.put, List.setIfInBounds_toArray, List.set_cons_succ, List.set_cons_zero]
      refine rel_val (v := .pointer (some ⟨b, o, Option.none⟩)) rfl (fun w' hw => by go_simp) ?_
      simp only [Act.put, List.setIfInBounds_toArray, List.set_cons_succ, List.set_cons_zero]
      refine rel_val (v := .pointer (some ⟨b, o + 70, Option.none⟩)) rfl (fun w' hw => by go_simp) ?_
      simp only [Act.put, List.setIfInBounds_toArray, List.set_cons_succ, List.set_cons_zero]
      refine rel_load_row b (o + 70) (UL s.down) _ rfl rfl (fun w' hw => hw.1.down.range) Try.underlying108 rfl (len108 _) ?_
      simp only [Act.put, List.setIfInBounds_toArray, List.set_cons_succ, List.set_cons_zero]
      refine rel_call (f := 169) (args := #[.agg (UL s.up).toArray, .agg (UL s.down).toArray]) rfl (fun w' hw => by go_simp) (fun w' hw => ?_) (fun v hv => ?_)
      · refine (c169 s.up s.down w' (by have := HC.out; omega)).mono ?_
        rintro y w'' ⟨rfl, hb2⟩
        exact ⟨_, rfl, ⟨fun _ => rfl, fun h => absurd h (by decide)⟩, hw.below hb2⟩
      rw [hv.1 rfl]
      simp only [Act.put, List.setIfInBounds_toArray, List.set_cons_succ, List.set_cons_zero]
      refine rel_call (f := 168) (args := #[.agg (UL (s.up - s.down)).toArray]) rfl (fun w' hw => by go_simp) (fun w' hw => ?_) (fun v2 hv2 => ?_)
      · refine (c168 (s.up - s.down) w' (Nat.lt_of_le_of_lt (Nat.sub_le _ _) HU.out.1)).mono ?_
        rintro y w'' ⟨⟨r, rfl, hr1, hr2⟩, hb2⟩
        exact ⟨_, rfl, ⟨fun h => absurd h (by decide), fun _ => ⟨r, rfl, hr1, hr2⟩⟩, hw.below hb2⟩
      obtain ⟨r, rfl, hr1, hr2⟩ := hv2.2 rfl
      simp only [Act.put, List.setIfInBounds_toArray, List.set_cons_succ, List.set_cons_zero]
      refine rel_val (v := .float .f64 r) rfl (fun w' hw => by go_simp) ?_
      simp only [Act.put, List.setIfInBounds_toArray, List.set_cons_succ, List.set_cons_zero]
      refine rel_nil ?_
      intro w3 hC3
      have HC3 := Lib.hid hC3
      clear hC3 hC2
      have HR : Hid (RetF P (.returned (.float .f64 r))) := Lib.hid ⟨r, rfl, hr1, by rw [hr2, HP.out, if_neg (by have := HC.out; omega), if_neg (fun h => by have := rnd_eq_zero h.1; have := HC.out; omega)]⟩
      clear hr1 hr2
      go_wp2_with fail
      go_ret
      exact ⟨HR.out, HC3.out.2.1⟩
    · have HC := Lib.hid c
      rw [show cmpN s.up s.down = 0 by unfold cmpN; rw [if_neg (by omega), if_neg (by omega)]]
      have HR : Hid (RetF P (.returned (.float .f64 (if decide (s.cold = s.many) = true then 9223372036854775808 else 0)))) := Lib.hid (by
        rw [HP.out, if_neg (by omega), show s.up - s.down = 0 by omega, rnd_zero]
        by_cases d : s.cold = s.many
        · rw [if_pos ⟨rfl, d⟩, decide_eq_true d]; exact ⟨_, rfl, by unfold U; decide, by decide⟩
        · rw [if_neg (fun h => d h.2), decide_eq_false d]; exact ⟨_, rfl, by unfold U; decide, by decide⟩)
      have k0 := hC2.out.1.m0.1
      have k4 := hC2.out.1.m4.1
      have q : ((s.cold : Int) == (s.many : Int)) = decide (s.cold = s.many) := by rw [Bool.eq_iff_iff]; simp; omega
      clear c
      go_upto_region 12 with fail
      go_quiet ((go_at_call 170; exact Calls.quiet_of_same ((c170 _ _).mono fun _ _ ⟨a, b⟩ => ⟨a, b.symm⟩)))
      generalize (if decide (s.cold = s.many) = true then 9223372036854775808 else 0) = R at *
      go_wp2_with fail
      go_ret
      exact ⟨HR.out, Bd hC2.out.2.1 _⟩
    · have HC := Lib.hid c
      rw [show cmpN s.up s.down = -1 by unfold cmpN; rw [if_neg (by omega), if_pos c]]
      clear c
      go_upto_region 11 with fail
      refine wp_region_rel 12 (C115 w b o s) (G115 (s.down - s.up)) (by kernel_rfl) (by kernel_rfl) hC2.out.drew ?_
      simp only [List.take_succ_cons, List.take_zero, List.drop_succ_cons, List.drop_zero]
      refine rel_move (v := .pointer (some ⟨b, o, Option.none⟩)) rfl rfl ?_
      simp only [Act.put, List.setIfInBounds_toArray, List.set_cons_succ, List.set_cons_zero]
      refine rel_val (v := .pointer (some ⟨b, o, Option.none⟩)) rfl (fun w' hw => by go_simp) ?_
      simp only [Act.put, List.setIfInBounds_toArray, List.set_cons_succ, List.set_cons_zero]
      refine rel_val (v := .pointer (some ⟨b, o + 70, Option.none⟩)) rfl (fun w' hw => by go_simp) ?_
      simp only [Act.put, List.setIfInBounds_toArray, List.set_cons_succ, List.set_cons_zero]
      refine rel_load_row b (o + 70) (UL s.down) _ rfl rfl (fun w' hw => hw.1.down.range) Try.underlying108 rfl (len108 _) ?_
      simp only [Act.put, List.setIfInBounds_toArray, List.set_cons_succ, List.set_cons_zero]
      refine rel_move (v := .pointer (some ⟨b, o, Option.none⟩)) rfl rfl ?_
      simp only [Act.put, List.setIfInBounds_toArray, List.set_cons_succ, List.set_cons_zero]
      refine rel_val (v := .pointer (some ⟨b, o, Option.none⟩)) rfl (fun w' hw => by go_simp) ?_
      simp only [Act.put, List.setIfInBounds_toArray, List.set_cons_succ, List.set_cons_zero]
      refine rel_val (v := .pointer (some ⟨b, o, Option.none⟩)) rfl (fun w' hw => by go_simp) ?_
      simp only [Act.put, List.setIfInBounds_toArray, List.set_cons_succ, List.set_cons_zero]
      refine rel_load_row b o (UL s.up) _ rfl rfl (fun w' hw => hw.1.up.range) Try.underlying108 rfl (len108 _) ?_
      simp only [Act.put, List.setIfInBounds_toArray, List.set_cons_succ, List.set_cons_zero]
      refine rel_call (f := 169) (args := #[.agg (UL s.down).toArray, .agg (UL s.up).toArray]) rfl (fun w' hw => by go_simp) (fun w' hw => ?_) (fun v hv => ?_)
      · refine (c169 s.down s.up w' (by have := HC.out; omega)).mono ?_
        rintro y w'' ⟨rfl, hb2⟩
        exact ⟨_, rfl, ⟨fun _ => rfl, fun h => absurd h (by decide)⟩, hw.below hb2⟩
      rw [hv.1 rfl]
      simp only [Act.put, List.setIfInBounds_toArray, List.set_cons_succ, List.set_cons_zero]
      refine rel_call (f := 168) (args := #[.agg (UL (s.down - s.up)).toArray]) rfl (fun w' hw => by go_simp) (fun w' hw => ?_) (fun v2 hv2 => ?_)
      · refine (c168 (s.down - s.up) w' (Nat.lt_of_le_of_lt (Nat.sub_le _ _) HU.out.2)).mono ?_
        rintro y w'' ⟨⟨r, rfl, hr1, hr2⟩, hb2⟩
        exact ⟨_, rfl, ⟨fun h => absurd h (by decide), fun _ => ⟨r, rfl, hr1, hr2⟩⟩, hw.below hb2⟩
      obtain ⟨r, rfl, hr1, hr2⟩ := hv2.2 rfl
      simp only [Act.put, List.setIfInBounds_toArray, List.set_cons_succ, List.set_cons_zero]
      refine rel_val (v := .float .f64 (Op.negFloat .f64 r)) rfl (fun w' hw => by go_simp) ?_
      simp only [Act.put, List.setIfInBounds_toArray, List.set_cons_succ, List.set_cons_zero]
      refine rel_val (v := .float .f64 (Op.negFloat .f64 r)) rfl (fun w' hw => by go_simp) ?_
      simp only [Act.put, List.setIfInBounds_toArray, List.set_cons_succ, List.set_cons_zero]
      refine rel_nil ?_
      intro w3 hC3
      have HC3 := Lib.hid hC3
      clear hC3 hC2
      have HR : Hid (RetF P (.returned (.float .f64 (Op.negFloat .f64 r)))) := Lib.hid ⟨_, rfl, U_ng hr1, by
        rw [show Op.negFloat .f64 r = ng r from rfl, pl_ng hr1, hr2, HP.out, if_pos HC.out]
        have := rnd_le_INF (s.down - s.up)
        unfold INF at this
        unfold ngP; rw [if_neg (by omega)]; omega⟩
      clear hr1 hr2
      go_wp2_with fail
      go_ret
      exact ⟨HR.out, HC3.out.2.1⟩
theorem c115 (b o : Nat) (s : RS) (w : World) (hs : SumAt w b o s) (hb : b < w.heap.size) (hu : s.up < 2 ^ (32 * RC)) (hd : s.down < 2 ^ (32 * RC)) :
    Calls Try.prog 115 #[.pointer (some ⟨b, o, Option.none⟩)] w fun e w' => RetF (pV (accOf s)) e ∧ Below w.heap.size w w' := by
  by_cases h : 0 < s.none ∨ (0 < s.high ∧ 0 < s.low)
  · exact c115n b o s w hs h
  · by_cases h2 : (0 < s.high ∧ s.low = 0) ∨ (s.high = 0 ∧ 0 < s.low)
    · exact c115i b o s w hs (by omega) h2
    · exact c115f b o s w hs hb (by omega) (by omega) (by omega) hu hd
end Go.Proofs.Ytelalledjbeenaa
