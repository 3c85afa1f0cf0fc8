/- The walk of BitsBack. -/
import Derived.Test.YtelalledjbeenaaBitsPartsW
import Derived.Test.YtelalledjbeenaaRelB
import Derived.Deep.DeepCutAuto
namespace Go.Proofs.Ytelalledjbeenaa
open Go.RowKit Fl

theorem rg_fields (x : Nat) (hx : U x) : rg x = eM x * 4503599627370496 + fM x := by
  have := hx.lt
  unfold rg eM fM; omega
theorem eM_le (x : Nat) : eM x ≤ 2047 := by unfold eM; have := Nat.mod_lt (x / 4503599627370496) (show 0 < 2048 by decide); omega
theorem fM_lt (x : Nat) : fM x < 4503599627370496 := Nat.mod_lt _ (by decide)
theorem isN_fields (x : Nat) (hx : U x) : isN x = (decide (eM x = 2047) && decide (fM x ≠ 0)) := by
  have h1 := rg_fields x hx
  have h2 := eM_le x
  have h3 := fM_lt x
  unfold isN INF
  rw [Bool.eq_iff_iff]; simp; omega
/-- Join of Split is the same number. -/
theorem join_split (x : Nat) (hx : U x) : joinP (pNeg x) (pCls x) (pMant x) (pExp x) = pl x := by
  have h1 := rg_fields x hx
  have h2 := eM_le x
  have h3 := fM_lt x
  have hw := word_self x hx.lt
  have hn := isN_fields x hx
  unfold pNeg pCls pMant pExp
  by_cases e : eM x = 2047
  · by_cases f : fM x = 0
    · rw [e, f] at h1
      simp only [e, f, if_true, ne_eq, not_true, and_false, if_false]
      rw [joinP3, ← show rg x = 9218868437227405312 by omega, hw]
    · have hn' : isN x = true := by rw [hn]; simp [e, f]
      simp only [e, f, if_true, if_false, ne_eq, not_false_iff, and_self]
      rw [joinP4, pl_nan hn']; rfl
  · have hn' : isN x = false := by rw [hn]; simp [e]
    simp only [e, if_false, false_and]
    by_cases e0 : eM x = 0
    · by_cases f : fM x = 0
      · rw [e0, f] at h1
        simp only [e0, f, if_true]
        rw [joinP0, ← show rg x = 0 by omega, hw]
      · simp only [e0, f, if_true, if_false]
        have hj : joinP (sg x) 1 (fM x) (-1074) = pl (nearW (sg x) (fM x) (-1074)) := by unfold joinP; rw [if_neg (by decide), if_neg (by decide), if_neg (by decide)]
        have hk : near (fM x) (-1074) = fM x := by
          have := near_again (fM x) (-1074) (by decide) (by rw [B52]; omega) (.inl rfl)
          rw [this, show ((-1074 : Int) + 1074).toNat = 0 from rfl, Nat.zero_mul, Nat.zero_add]
        rw [hj]
        unfold nearW
        rw [hk, Nat.min_eq_left (by unfold INF; omega)]
        rw [e0] at h1
        rw [← show rg x = fM x by omega, hw]
    · simp only [e0, if_false]
      have hj : joinP (sg x) 2 (4503599627370496 + fM x) ((eM x : Int) - 1075) = pl (nearW (sg x) (4503599627370496 + fM x) ((eM x : Int) - 1075)) := by unfold joinP; rw [if_neg (by decide), if_neg (by decide), if_neg (by decide)]
      have hk : near (4503599627370496 + fM x) ((eM x : Int) - 1075) = rg x := by
        have := near_again (4503599627370496 + fM x) ((eM x : Int) - 1075) (by omega) (by rw [B52]; omega) (.inr (by rw [B52]; omega))
        rw [this, show ((eM x : Int) - 1075 + 1074).toNat = eM x - 1 by omega, B52, h1]
        omega
      rw [hj]
      unfold nearW
      rw [hk, Nat.min_eq_left (by unfold INF; omega), hw]

theorem parts_nan (x : Nat) (hx : U x) (h : isN x = true) : partsV x = .agg #[.bool false, .int .i64 4, .int .u64 0, .int .i64 0] := by
  rw [isN_fields x hx] at h
  simp at h
  unfold partsV pNeg pCls pMant pExp
  simp [h.1, h.2]
theorem parts_pl (x y : Nat) (hx : U x) (hy : U y) (h : pl x = pl y) : partsV x = partsV y := by
  rcases (pl_eq_iff hx hy).1 h with h | ⟨h1, h2⟩
  · rw [h]
  · rw [parts_nan x hx h1, parts_nan y hy h2]

theorem U_pMant (x : Nat) : U (pMant x) := by
  have := fM_lt x
  unfold U pMant; (repeat' split) <;> omega

/-- what the parts of a number are like -/
theorem parts_kind (x : Nat) : (pCls x = 2 ∧ 4503599627370496 ≤ pMant x ∧ pMant x < 9007199254740992) ∨ (pCls x = 1 ∧ 0 < pMant x ∧ pMant x < 4503599627370496 ∧ pExp x = -1074) ∨ ((pCls x = 0 ∨ pCls x = 3 ∨ pCls x = 4) ∧ pMant x = 0 ∧ pExp x = 0) := by
  have h3 := fM_lt x
  unfold pCls pMant pExp
  by_cases e : eM x = 2047
  · by_cases f : fM x = 0 <;> simp [e, f]
  · by_cases e0 : eM x = 0
    · by_cases f : fM x = 0 <;> simp [e0, f]
      omega
    · left; simp [e, e0]; omega

def backG (x : Nat) (f : FuncId) (args : Array Value) (v : Value) : Prop :=
  (f = 44 → ∀ x y, args = #[.float .f64 x, .float .f64 y] → v = .bool (pl x == pl y)) ∧ (f = 30 → v = partsV x) ∧ (f = 45 → v = .bool true) ∧
  (f = 43 → ∀ x, args = #[.float .f64 x] → ∃ r, v = .float .f64 r ∧ U r ∧ pl r = pl (wh x))

theorem pl_wh_nan {x : Nat} (h : isN x = true) : pl (wh x) = 9223372036854775807 := by
  have : fin x = false := by
    have := isN_true h
    unfold fin; exact decide_eq_false (by omega)
  unfold wh; rw [this]
  exact pl_nan h
theorem c43 (x : Nat) (w : World) (hx : U x) : Calls Try.prog 43 #[.float .f64 x] w fun e w' => RetF (pl (wh x)) e ∧ Below w.heap.size w w' := by
  cases hn : isN x
  · exact (c43n x w hx hn).mono fun e w' ⟨he, hw⟩ => by subst he hw; exact ⟨retF (U_wh x hx) rfl, Below.refl _ _⟩
  · exact (c43a x w hx hn).mono fun e w' ⟨he, n, hw⟩ => by subst hw; rw [pl_wh_nan hn]; exact ⟨he, Bd (Below.refl _ _) n⟩
theorem wh_idem (q x : Nat) (hq : U q) (hx : U x) (h : pl q = pl (wh x)) : pl (wh q) = pl q := by
  rcases (pl_eq_iff hq (U_wh x hx)).1 h with h1 | ⟨h1, _⟩
  · rw [h1, wh_wh]
  · rw [pl_wh_nan h1, pl_nan h1]; rfl
/-- Narrow of Wide, same bit by bit. -/
def RetB (b : Nat) (e : Ending) : Prop := ∃ z, e = .returned (.float .f32 z) ∧ U32 z ∧ ((z == b) || (isN32 z && isN32 b)) = true

set_option maxRecDepth 100000 in
set_option maxHeartbeats 2000000 in
theorem walkBitsBack (x b : Nat) (w : World) (hx : U x) (hb : U32 b) :
    Calls Try.prog 9 #[.float .f64 x, .int .u32 b] w fun e w' => e = .returned (.bool true) ∧ Below w.heap.size w w' := by
  go_enter Try.func9, Try.ntmps9
  go_wp2_with fail
  refine (c29 _).mono ?_
  rintro e w1 ⟨rfl, hb1⟩
  go_wp2_with fail
  refine (c30 _ _ hx).mono ?_
  rintro e w2 ⟨rfl, hb2⟩
  have B2 := below_trans hb1 hb2
  clear hb1 hb2
  unfold partsV
  have hk := parts_kind x
  have hj := Lib.hid (join_split x hx)
  have hUm := U_pMant x
  have hpv : Hid (partsV x = .agg #[.bool (pNeg x), .int .i64 (pCls x), .int .u64 (pMant x), .int .i64 (pExp x)]) := Lib.hid rfl
  generalize pNeg x = N at *
  generalize pCls x = C at *
  generalize pMant x = M at *
  generalize pExp x = E at *
  go_wp2_with fail
  refine (c33 _ _ _ _ _ hUm).mono ?_
  rintro e w3 ⟨⟨r1, rfl, u1, p1⟩, hb3⟩
  have P1 := Lib.hid (p1.trans hj.out)
  have k0 := kept_cell hb3 0
  have k1 := kept_cell hb3 1
  have k2 := kept_cell hb3 2
  have k3 := kept_cell hb3 3
  simp only [List.getElem?_toArray, List.getElem?_cons_zero, List.getElem?_cons_succ] at k0 k1 k2 k3
  have z3 := size_lt_alloc hb3
  have B3 := below_of_alloc B2 hb3
  clear hb3 B2 p1 hj
  have tb : ((b : Int)).toNat = b := Int.toNat_natCast b
  have hw42 : Calls Try.prog 42 #[.float .f32 b] w3 fun e w' => ∃ z2 w4, e = .returned (.float .f64 z2) ∧ w' = w4 ∧ Below w3.heap.size w3 w4 ∧ ∀ w5, Calls Try.prog 41 #[.float .f64 z2] w5 fun e w' => RetB b e ∧ Below w5.heap.size w5 w' := by
    cases hn : isN32 b
    · refine (c42n b w3 hb hn).mono ?_
      rintro e w' ⟨rfl, rfl⟩
      refine ⟨_, _, rfl, rfl, Below.refl _ _, fun w5 => (c41n b w5 hb hn).mono ?_⟩
      rintro e w' ⟨rfl, rfl⟩
      exact ⟨⟨b, rfl, hb, by simp⟩, Below.refl _ _⟩
    · refine (c42a b w3 hb hn).mono ?_
      rintro e w' ⟨⟨z2, rfl, hu, hp⟩, n, rfl⟩
      have hz : isN z2 = true := by rw [isN_iff_pl, hp]; rfl
      refine ⟨z2, _, rfl, rfl, Bd (Below.refl _ _) n, fun w5 => (c41a z2 w5 hu hz).mono ?_⟩
      rintro e w' ⟨⟨z, rfl, hz1, hz2⟩, m, rfl⟩
      exact ⟨⟨z, rfl, hz1, by rw [hz2, hn]; simp⟩, Bd (Below.refl _ _) m⟩
  have H42 := Lib.hid hw42
  clear hw42
  go_wp2_with fail
  refine H42.out.mono ?_
  rintro e w' ⟨z2, w4, rfl, rfl, hb4, h41⟩
  have H41 := Lib.hid h41
  clear h41 H42
  go_wp2_with fail
  refine (H41.out _).mono ?_
  rintro e w5 ⟨⟨z, rfl, uz, hz⟩, hb5⟩
  clear H41
  go_wp2_with fail
  refine (c43 _ _ hx).mono ?_
  rintro e w6 ⟨⟨q, rfl, uq, hq⟩, hb6⟩
  have hb := below_trans (below_trans hb4 hb5) hb6
  obtain ⟨hc, hf⟩ := bcell hb
  rw [← hc _ _ z3] at k0 k1 k2 k3
  have z6 : w2.heap.size < w6.heap.size := Nat.lt_of_lt_of_le z3 hb.size
  have B6 := below_trans B3 hb
  clear hb hb4 hb5 hb6 hc hf B3 z3 tb
  go_upto_region 7 with fail
  go_cut [11] (fun s wx => s = .bool true ∧ wx = w6)
  case first =>
    rcases hk with ⟨rfl, h1, h2⟩ | ⟨rfl, h1, h2, rfl⟩ | ⟨hC, rfl, rfl⟩
    · obtain ⟨mi, hmi⟩ : ∃ mi : Int, mi = (M : Int) := ⟨_, rfl⟩
      rw [← hmi] at k2
      have d1 : (4503599627370496 : Int) ≤ mi := by omega
      have d2 : mi < 9007199254740992 := by omega
      clear h1 h2 hmi
      go_wp2
      all_goals
        go_meet
        exact ⟨rfl, rfl⟩
    · obtain ⟨mi, hmi⟩ : ∃ mi : Int, mi = (M : Int) := ⟨_, rfl⟩
      rw [← hmi] at k2
      have d1 : (0 : Int) < mi := by omega
      have d2 : mi < 4503599627370496 := by omega
      clear h1 h2 hmi
      go_wp2
      all_goals
        go_meet
        exact ⟨rfl, rfl⟩
    · rcases hC with rfl | rfl | rfl
      all_goals
        go_wp2
        all_goals
          go_meet
          exact ⟨rfl, rfl⟩
  case rest =>
    obtain ⟨rfl, rfl⟩ := hcut
    clear hk
    go_wp2_with fail
    refine wp_region_rel 32 (fun w' => Below wc.heap.size wc w') (backG x) (by kernel_rfl) (by kernel_rfl) ((Below.refl _ _).drew) ?_
    simp only [List.take_succ_cons, List.take_zero, List.drop_succ_cons, List.drop_zero]
    have kk : ∀ w', Below wc.heap.size wc w' → w'.cell? ⟨w2.heap.size, 0, none⟩ = some (.bool N) ∧ w'.cell? ⟨w2.heap.size, 1, none⟩ = some (.int .i64 C) ∧ w'.cell? ⟨w2.heap.size, 2, none⟩ = some (.int .u64 M) ∧ w'.cell? ⟨w2.heap.size, 3, none⟩ = some (.int .i64 E) := by
      intro w' hw
      obtain ⟨hc, _⟩ := bcell hw
      exact ⟨(hc _ _ z6).trans k0, (hc _ _ z6).trans k1, (hc _ _ z6).trans k2, (hc _ _ z6).trans k3⟩
    refine rel_move (v := .bool true) rfl rfl ?_
    simp only [Act.put, List.setIfInBounds_toArray, List.set_cons_succ, List.set_cons_zero]
    refine rel_move (v := .bool true) rfl rfl ?_
    simp only [Act.put, List.setIfInBounds_toArray, List.set_cons_succ, List.set_cons_zero]
    refine rel_move (v := .bool true) rfl rfl ?_
    simp only [Act.put, List.setIfInBounds_toArray, List.set_cons_succ, List.set_cons_zero]
    refine rel_pick_t (v := .bool true) rfl rfl rfl ?_
    simp only [Act.put, List.setIfInBounds_toArray, List.set_cons_succ, List.set_cons_zero]
    refine rel_move (v := .bool true) rfl rfl ?_
    simp only [Act.put, List.setIfInBounds_toArray, List.set_cons_succ, List.set_cons_zero]
    refine rel_move (v := .float .f64 r1) rfl rfl ?_
    simp only [Act.put, List.setIfInBounds_toArray, List.set_cons_succ, List.set_cons_zero]
    refine rel_move (v := .float .f64 x) rfl rfl ?_
    simp only [Act.put, List.setIfInBounds_toArray, List.set_cons_succ, List.set_cons_zero]
    refine rel_call (f := 44) (args := #[.float .f64 r1, .float .f64 x]) rfl (fun w' hw => ?_) (fun w' hw => ?_) (fun v hv => ?_)
    · go_simp
    · refine (c44 r1 x w' u1 hx).mono ?_
      rintro y w'' ⟨rfl, rfl⟩
      exact ⟨_, rfl, ⟨fun _ x y hxy => by cases hxy; rfl, fun h => (by cases h), fun h => (by cases h), fun h => (by cases h)⟩, hw⟩
    have hv := hv.1 rfl r1 x rfl
    rw [P1.out, beq_self_eq_true] at hv
    subst hv
    simp only [Act.put, List.setIfInBounds_toArray, List.set_cons_succ, List.set_cons_zero]
    refine rel_pick_t (v := .bool true) rfl rfl rfl ?_
    simp only [Act.put, List.setIfInBounds_toArray, List.set_cons_succ, List.set_cons_zero]
    refine rel_move (v := .bool true) rfl rfl ?_
    simp only [Act.put, List.setIfInBounds_toArray, List.set_cons_succ, List.set_cons_zero]
    refine rel_move (v := .float .f64 r1) rfl rfl ?_
    simp only [Act.put, List.setIfInBounds_toArray, List.set_cons_succ, List.set_cons_zero]
    refine rel_call (f := 30) (args := #[.float .f64 r1]) rfl (fun w' hw => ?_) (fun w' hw => ?_) (fun v hv => ?_)
    · go_simp
    · refine (c30 r1 w' u1).mono ?_
      rintro y w'' ⟨rfl, hb⟩
      exact ⟨_, rfl, ⟨fun h => (by cases h), fun _ => (parts_pl r1 x u1 hx P1.out), fun h => (by cases h), fun h => (by cases h)⟩, below_trans hw hb⟩
    have hv := hv.2.1 rfl
    rw [hpv.out] at hv
    subst hv
    simp only [Act.put, List.setIfInBounds_toArray, List.set_cons_succ, List.set_cons_zero]
    refine rel_val (v := .agg #[.bool N, .int .i64 C, .int .u64 M, .int .i64 E]) rfl (fun w' hw => ?_) ?_
    · obtain ⟨q0, q1, q2, q3⟩ := kk w' hw
      go_simp
    simp only [Act.put, List.setIfInBounds_toArray, List.set_cons_succ, List.set_cons_zero]
    refine rel_val (v := .bool true) rfl (fun w' hw => ?_) ?_
    · go_simp
    simp only [Act.put, List.setIfInBounds_toArray, List.set_cons_succ, List.set_cons_zero]
    refine rel_pick_t (v := .bool true) rfl rfl rfl ?_
    simp only [Act.put, List.setIfInBounds_toArray, List.set_cons_succ, List.set_cons_zero]
    refine rel_move (v := .bool true) rfl rfl ?_
    simp only [Act.put, List.setIfInBounds_toArray, List.set_cons_succ, List.set_cons_zero]
    refine rel_move (v := .float .f32 z) rfl rfl ?_
    simp only [Act.put, List.setIfInBounds_toArray, List.set_cons_succ, List.set_cons_zero]
    refine rel_move (v := .int .u32 b) rfl rfl ?_
    simp only [Act.put, List.setIfInBounds_toArray, List.set_cons_succ, List.set_cons_zero]
    refine rel_call (f := 45) (args := #[.float .f32 z, .int .u32 b]) rfl (fun w' hw => ?_) (fun w' hw => ?_) (fun v hv => ?_)
    · go_simp
    · refine (c45 z b w' uz hb).mono ?_
      rintro y w'' ⟨rfl, rfl⟩
      exact ⟨_, rfl, ⟨fun h => (by cases h), fun h => (by cases h), fun _ => by rw [hz], fun h => (by cases h)⟩, hw⟩
    have hv := hv.2.2.1 rfl
    subst hv
    simp only [Act.put, List.setIfInBounds_toArray, List.set_cons_succ, List.set_cons_zero]
    refine rel_pick_t (v := .bool true) rfl rfl rfl ?_
    simp only [Act.put, List.setIfInBounds_toArray, List.set_cons_succ, List.set_cons_zero]
    refine rel_move (v := .bool true) rfl rfl ?_
    simp only [Act.put, List.setIfInBounds_toArray, List.set_cons_succ, List.set_cons_zero]
    refine rel_move (v := .float .f64 q) rfl rfl ?_
    simp only [Act.put, List.setIfInBounds_toArray, List.set_cons_succ, List.set_cons_zero]
    refine rel_call (f := 43) (args := #[.float .f64 q]) rfl (fun w' hw => ?_) (fun w' hw => ?_) (fun v hv => ?_)
    · go_simp
    · refine (c43 q w' uq).mono ?_
      rintro y w'' ⟨⟨r, rfl, hr, hp⟩, hb⟩
      exact ⟨_, rfl, ⟨fun h => (by cases h), fun h => (by cases h), fun h => (by cases h), fun _ x hxy => by cases hxy; exact ⟨r, rfl, hr, hp⟩⟩, below_trans hw hb⟩
    obtain ⟨q2, rfl, uq2, hq2⟩ := hv.2.2.2 rfl q rfl
    simp only [Act.put, List.setIfInBounds_toArray, List.set_cons_succ, List.set_cons_zero]
    refine rel_move (v := .float .f64 q) rfl rfl ?_
    simp only [Act.put, List.setIfInBounds_toArray, List.set_cons_succ, List.set_cons_zero]
    refine rel_call (f := 44) (args := #[.float .f64 q2, .float .f64 q]) rfl (fun w' hw => ?_) (fun w' hw => ?_) (fun v hv => ?_)
    · go_simp
    · refine (c44 q2 q w' uq2 uq).mono ?_
      rintro y w'' ⟨rfl, rfl⟩
      exact ⟨_, rfl, ⟨fun _ x y hxy => by cases hxy; rfl, fun h => (by cases h), fun h => (by cases h), fun h => (by cases h)⟩, hw⟩
    have hv := hv.1 rfl q2 q rfl
    rw [hq2.trans (wh_idem q x uq hx hq), beq_self_eq_true] at hv
    subst hv
    simp only [Act.put, List.setIfInBounds_toArray, List.set_cons_succ, List.set_cons_zero]
    refine rel_pick_t (v := .bool true) rfl rfl rfl ?_
    simp only [Act.put, List.setIfInBounds_toArray, List.set_cons_succ, List.set_cons_zero]
    refine rel_move (v := .bool true) rfl rfl ?_
    simp only [Act.put, List.setIfInBounds_toArray, List.set_cons_succ, List.set_cons_zero]
    refine rel_move (v := .float .f64 x) rfl rfl ?_
    simp only [Act.put, List.setIfInBounds_toArray, List.set_cons_succ, List.set_cons_zero]
    refine rel_move (v := .float .f64 x) rfl rfl ?_
    simp only [Act.put, List.setIfInBounds_toArray, List.set_cons_succ, List.set_cons_zero]
    refine rel_call (f := 44) (args := #[.float .f64 x, .float .f64 x]) rfl (fun w' hw => ?_) (fun w' hw => ?_) (fun v hv => ?_)
    · go_simp
    · refine (c44 x x w' hx hx).mono ?_
      rintro y w'' ⟨rfl, rfl⟩
      exact ⟨_, rfl, ⟨fun _ x y hxy => by cases hxy; rfl, fun h => (by cases h), fun h => (by cases h), fun h => (by cases h)⟩, hw⟩
    have hv := hv.1 rfl x x rfl
    rw [beq_self_eq_true] at hv
    subst hv
    simp only [Act.put, List.setIfInBounds_toArray, List.set_cons_succ, List.set_cons_zero]
    refine rel_pick_t (v := .bool true) rfl rfl rfl ?_
    simp only [Act.put, List.setIfInBounds_toArray, List.set_cons_succ, List.set_cons_zero]
    refine rel_assign (v := .bool true) rfl rfl (rel_nil (fun w7 hw7 => ?_))
    simp only [Act.put, List.setIfInBounds_toArray, List.set_cons_succ, List.set_cons_zero]
    have B7 := below_trans B6 hw7
    clear hw7 kk k0 k1 k2 k3 z6 B6
    go_wp2
    go_ret
    exact ⟨rfl, B7⟩
end Go.Proofs.Ytelalledjbeenaa
