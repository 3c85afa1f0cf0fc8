/- galleyref14: Rem. galleyref14: Rem of what is no number, of what is infinite; Sign, Used, both. calc and galleyref14: Sign, Used. calc: Mod. calc: Mod of numbers. -/
import Derived.Test.YthohhepoddnbnaaGreatDoorMgUG
import Derived.Test.YthohhepoddnbnaaGreatDoorCbC
import Derived.Test.YthohhepoddnbnaaGreatDoorUI
namespace Go.Proofs.YthohhepoddnbnaaGreatDoor
open Go.RowKit Fl

theorem ord_self (x : Nat) (hx : U x) : FloatKind.f64.format.order x x = if isN x then none else some .eq := by
  rw [f64_order x x hx hx, compare_int]
  cases isN x <;> simp
theorem rnd_pl (N : Nat) : pl (rnd N) = (rnd N : Nat) := by
  have h := rnd_lt N
  have h2 := rnd_le N
  have hs : sg (rnd N) = false := by unfold sg; exact decide_eq_false (by omega)
  have hr : rg (rnd N) = rnd N := rg_of_not hs
  have hn : isN (rnd N) = false := by unfold isN; rw [hr]; exact decide_eq_false (by omega)
  unfold pl
  rw [hn, hs, hr]
  rfl
theorem rem_pl (x y r : Nat) (hr : U r) (h : pl r = (rnd (Fl.val 52 (rg x) % Fl.val 52 (rg y)) : Nat)) : pl (if sg x then ng r else r) = pl (remF x y) ∧ U (if sg x then ng r else r) := by
  unfold remF
  generalize Fl.val 52 (rg x) % Fl.val 52 (rg y) = N at *
  have h1 : pl r = pl (rnd N) := by rw [h, rnd_pl]
  have hk : U (rnd N) := by have := rnd_lt N; unfold U; omega
  cases sg x
  · rw [if_neg (by decide), word_false]; exact ⟨h1, hr⟩
  · rw [if_pos rfl, ← ng_word _ (rnd_lt N), pl_ng hr, pl_ng hk, h1]
    refine ⟨rfl, ?_⟩
    rw [ng_eq r hr]
    have := rg_lt r
    unfold word U
    split <;> omega
theorem val_fin (x : Nat) (hf : rg x < 9218868437227405312) : 2 * Fl.val 52 (rg x) < 2 ^ (32 * RC) := by
  rw [val_parts]
  have a := pM_lt (rg x)
  have b := pE_le _ hf
  have c : 2 ^ pE (rg x) ≤ 2 ^ (32 * RC - 54) := Nat.pow_le_pow_right (by decide) (by rw [RC_eq]; omega)
  have d := Nat.mul_lt_mul_of_lt_of_le a c (Nat.two_pow_pos _)
  have e : 2 * (2 ^ 53 * 2 ^ (32 * RC - 54)) = 2 ^ (32 * RC) := by
    rw [← Nat.pow_add, ← Nat.pow_succ']
    congr 1
  omega
theorem laid_row {W w : World} {cs : Array Value} {t : TypeId} (B : Below W.heap.size W w) (l : List Value) (T : (w.alloc (.cells cs t)).there w.heap.size 0 l.length) : ((w.alloc (.cells cs t)).setCells w.heap.size 0 l).rangeAt w.heap.size 0 l ∧ Below W.heap.size W ((w.alloc (.cells cs t)).setCells w.heap.size 0 l) :=
  ⟨World.rangeAt_setCells_same _ _ _ _ T, below_setCells (B.alloc B.size _) B.size 0 l⟩
set_option maxRecDepth 100000 in
set_option maxHeartbeats 2000000 in
theorem rRemF (x y : Nat) (w : World) (hx : U x) (hy : U y) (h : ¬ remN x y) (hi : isI y = false) : Calls Tryz.prog 18 #[.float .f64 x, .float .f64 y] w fun e w' => (∃ r, e = .returned (.float .f64 r) ∧ U r ∧ pl r = pl (remF x y)) ∧ Below w.heap.size w w' := by
  have C3 := Lib.hid (fun w => c130 x w hx)
  have C4 := Lib.hid (fun w => c130 y w hy)
  have h1 : isN x = false := by cases e : isN x; rfl; exact absurd (.inl e) h
  have h2 : isN y = false := by cases e : isN y; rfl; exact absurd (.inr (.inl e)) h
  have h3 : isI x = false := by cases e : isI x; rfl; exact absurd (.inr (.inr (.inl e))) h
  have h4 : ¬ FloatKind.f64.format.order y 0 = some .eq := fun e => h (.inr (.inr (.inr e)))
  have h5 : (FloatKind.f64.format.order y 0 == some .eq) = false := beq_eq_false_iff_ne.2 h4
  have fx := fin_of x h1 h3
  have fy := fin_of y h2 hi
  have o1 : FloatKind.f64.format.order x x = some .eq := by rw [ord_self x hx, h1]; rfl
  have o2 : FloatKind.f64.format.order y y = some .eq := by rw [ord_self y hy, h2]; rfl
  have U1 := Lib.hid (fun w => lUnits x w hx fx)
  have U2 := Lib.hid (fun w => lUnits y w hy fy)
  have vx := val_fin x fx
  have vy := val_fin y fy
  have v0 : 0 < Fl.val 52 (rg y) := by rw [val_parts]; exact Nat.mul_pos (pM_pos (rg y) (fun e => h4 (order_zero y hy h2 e))) (Nat.two_pow_pos _)
  have CR := Lib.hid (fun w => lRest (Fl.val 52 (rg x)) (Fl.val 52 (rg y)) w v0 vy (lt_half vx))
  have CD := Lib.hid (fun w => c168 (Fl.val 52 (rg x) % Fl.val 52 (rg y)) w (Nat.lt_of_le_of_lt (Nat.mod_le _ _) (lt_half vx)))
  have CN := Lib.hid (fun w => lNeg x w hx)
  have CS : Hid (∀ r, U r → pl r = (rnd (Fl.val 52 (rg x) % Fl.val 52 (rg y)) : Nat) → ∀ w, Calls Tryz.prog 55 #[.float .f64 r, .bool (sg x)] w fun e w' => (∃ r', e = .returned (.float .f64 r') ∧ Hid (U r' ∧ pl r' = pl (remF x y))) ∧ w = w') := Lib.hid fun r hr hp w => (lSigned r (sg x) w hr).mono fun e w' ⟨he, hw⟩ => ⟨⟨_, he, Lib.hid ⟨(rem_pl x y r hr hp).2, (rem_pl x y r hr hp).1⟩⟩, hw⟩
  rw [h3] at C3
  rw [hi] at C4
  clear h h1 h2 h3 hi hx hy fx fy vx vy v0
  have E1 := Lib.hid (fun n => show (Tryz.prog.info? 80).map (·.size) = some (UL n).length by rw [UL_len]; exact size108)
  have E2 := Lib.hid (fun n => show (Tryz.prog.info? 80).map (·.size) = some (UL n).toArray.size by rw [List.size_toArray, UL_len]; exact size108)
  generalize Fl.val 52 (rg x) = a at *
  generalize Fl.val 52 (rg y) = b at *
  go_enter Tryz.func18, Tryz.ntmps18
  go_upto_region 6 with (first
    | (go_at_call 35; with_reducible refine (C3.out _).mono ?_; rintro e w' ⟨rfl, rfl⟩)
    | (go_at_call 35; with_reducible refine (C4.out _).mono ?_; rintro e w' ⟨rfl, rfl⟩)
    | (go_at_call 48; with_reducible refine (U1.out _).mono ?_; rintro e w1 ⟨rfl, hb1⟩; have I := Lib.hid hb1; clear hb1 U1)
    | (go_at_call 48; with_reducible refine (U2.out _).mono ?_; rintro e w2 ⟨rfl, hb2⟩; replace I := Lib.hid (I.out.trans (hb2.mono I.out.size)); clear hb2 U2)
    | (go_at_call 50; refine (CR.out _).mono ?_; rintro e w3 ⟨rfl, hb3⟩; replace I := Lib.hid (I.out.trans (hb3.mono I.out.size)); clear hb3 CR; have L1 : Hid ((w3.alloc (.cells Tryz.zeroCells80 80)).there w3.heap.size 0 (UL (a % b)).toArray.size) := Lib.hid (by rw [zero80]; exact (urow_zero w3).there (by rw [List.size_toArray, UL_len])))
    | (refine wpList_store_mid rfl 80 (.tmp 5) (.tmp 32) rfl w3.heap.size 0 (UL (a % b)).toArray rfl rfl L1.out (E2.out _) (UL_one _) ?_; refine wpLG (fun wx => Hid (wx.rangeAt w3.heap.size 0 (UL (a % b)) ∧ Below w.heap.size w wx)) (Lib.hid (laid_row I.out (UL (a % b)) (by rw [zero80]; exact (urow_zero w3).there (UL_len _)))) ?_; intro w4 hJ; clear I L1))
  go_wp2_with (first
    | (refine wpList_load_mid rfl 80 (.tmp 5) rfl w3.heap.size 0 rfl (UL (a % b)) _ hJ.out.1 Tryz.underlying80 rfl (E1.out _) ?_)
    | (go_at_call 54; refine (CD.out _).mono ?_; rintro e w5 ⟨⟨r, rfl, hr, hp⟩, hb5⟩; have K := Lib.hid (hJ.out.2.trans (hb5.mono hJ.out.2.size)); have HR := Lib.hid (And.intro hr hp); clear hr hp hb5 CD hJ)
    | (go_at_call 49; refine (CN.out _).mono ?_; rintro e w' ⟨rfl, rfl⟩)
    | (go_at_call 55; refine (CS.out _ HR.out.1 HR.out.2 _).mono ?_; rintro e w' ⟨⟨r', rfl, H'⟩, rfl⟩))
  go_ret
  exact ⟨⟨_, rfl, H'.out.1, H'.out.2⟩, K.out⟩
end Go.Proofs.YthohhepoddnbnaaGreatDoor

namespace Go.Proofs.YthohhepoddnbnaaGreatDoor
open Go.RowKit Fl

theorem remN_cases {x y : Nat} (h : remN x y) : isN x = true ∨ (isN x = false ∧ isN y = true) ∨ (isN x = false ∧ isN y = false ∧ isI x = true) ∨ (isN x = false ∧ isN y = false ∧ isI x = false ∧ FloatKind.f64.format.order y 0 = some .eq) := by
  rcases h with h | h | h | h
  · exact .inl h
  · cases e : isN x
    · exact .inr (.inl ⟨rfl, h⟩)
    · exact .inl rfl
  · cases e : isN x
    · cases e2 : isN y
      · exact .inr (.inr (.inl ⟨rfl, rfl, h⟩))
      · exact .inr (.inl ⟨rfl, rfl⟩)
    · exact .inl rfl
  · cases e : isN x
    · cases e2 : isN y
      · cases e3 : isI x
        · exact .inr (.inr (.inr ⟨rfl, rfl, rfl, h⟩))
        · exact .inr (.inr (.inl ⟨rfl, rfl, rfl⟩))
      · exact .inr (.inl ⟨rfl, rfl⟩)
    · exact .inl rfl
set_option maxRecDepth 100000 in
set_option maxHeartbeats 2000000 in
theorem rRemN (x y : Nat) (w : World) (hx : U x) (hy : U y) (h : remN x y) : Calls Tryz.prog 18 #[.float .f64 x, .float .f64 y] w fun e w' => e = .returned (.float .f64 QN) ∧ w = w' := by
  have C3 := Lib.hid (fun w => c130 x w hx)
  have C5 := Lib.hid (fun w => c135 w)
  have o1 := ord_self x hx
  have o2 := ord_self y hy
  have H := remN_cases h
  clear h hx hy
  rcases H with h1 | ⟨h1, h2⟩ | ⟨h1, h2, h3⟩ | ⟨h1, h2, h3, h4⟩
  · rw [h1, if_pos rfl] at o1
    clear o2
    go_enter Tryz.func18, Tryz.ntmps18
    go_wp2_with (first
      | (go_at_call 35; refine (C3.out _).mono ?_; rintro e w' ⟨rfl, rfl⟩)
      | (go_at_call 36; refine (C5.out _).mono ?_; rintro e w' ⟨rfl, rfl⟩))
    go_ret
    exact ⟨rfl, rfl⟩
  · rw [h1, if_neg (by decide)] at o1
    rw [h2, if_pos rfl] at o2
    go_enter Tryz.func18, Tryz.ntmps18
    go_wp2_with (first
      | (go_at_call 35; refine (C3.out _).mono ?_; rintro e w' ⟨rfl, rfl⟩)
      | (go_at_call 36; refine (C5.out _).mono ?_; rintro e w' ⟨rfl, rfl⟩))
    go_ret
    exact ⟨rfl, rfl⟩
  · rw [h1, if_neg (by decide)] at o1
    rw [h2, if_neg (by decide)] at o2
    rw [h3] at C3
    go_enter Tryz.func18, Tryz.ntmps18
    go_wp2_with (first
      | (go_at_call 35; refine (C3.out _).mono ?_; rintro e w' ⟨rfl, rfl⟩)
      | (go_at_call 36; refine (C5.out _).mono ?_; rintro e w' ⟨rfl, rfl⟩))
    go_ret
    exact ⟨rfl, rfl⟩
  · rw [h1, if_neg (by decide)] at o1
    rw [h2, if_neg (by decide)] at o2
    rw [h3] at C3
    go_enter Tryz.func18, Tryz.ntmps18
    go_wp2_with (first
      | (go_at_call 35; refine (C3.out _).mono ?_; rintro e w' ⟨rfl, rfl⟩)
      | (go_at_call 36; refine (C5.out _).mono ?_; rintro e w' ⟨rfl, rfl⟩))
    go_ret
    exact ⟨rfl, rfl⟩
set_option maxRecDepth 100000 in
set_option maxHeartbeats 2000000 in
theorem rRemI (x y : Nat) (w : World) (hx : U x) (hy : U y) (h : ¬ remN x y) (hi : isI y = true) : Calls Tryz.prog 18 #[.float .f64 x, .float .f64 y] w fun e w' => e = .returned (.float .f64 x) ∧ w = w' := by
  have C3 := Lib.hid (fun w => c130 x w hx)
  have C4 := Lib.hid (fun w => c130 y w hy)
  have h1 : isN x = false := by cases e : isN x; rfl; exact absurd (.inl e) h
  have h2 : isN y = false := by cases e : isN y; rfl; exact absurd (.inr (.inl e)) h
  have h3 : isI x = false := by cases e : isI x; rfl; exact absurd (.inr (.inr (.inl e))) h
  have h4 : ¬ FloatKind.f64.format.order y 0 = some .eq := fun e => h (.inr (.inr (.inr e)))
  have h5 : (FloatKind.f64.format.order y 0 == some .eq) = false := beq_eq_false_iff_ne.2 h4
  have o1 : FloatKind.f64.format.order x x = some .eq := by rw [ord_self x hx, h1]; rfl
  have o2 : FloatKind.f64.format.order y y = some .eq := by rw [ord_self y hy, h2]; rfl
  rw [h3] at C3
  rw [hi] at C4
  clear h h1 h2 h3 hi hx hy
  go_enter Tryz.func18, Tryz.ntmps18
  go_wp2_with (first
    | (go_at_call 35; with_reducible refine (C3.out _).mono ?_; rintro e w' ⟨rfl, rfl⟩)
    | (go_at_call 35; with_reducible refine (C4.out _).mono ?_; rintro e w' ⟨rfl, rfl⟩))
  go_ret
  exact ⟨rfl, rfl⟩
end Go.Proofs.YthohhepoddnbnaaGreatDoor

namespace Go.Proofs.YthohhepoddnbnaaGreatDoor
open Go.RowKit Fl

def signW (x : Nat) : Nat := match FloatKind.f64.format.order x 0 with
  | some .gt => 4607182418800017408
  | some .lt => 13830554455654793216
  | _ => x
def usedO (x : Nat) : Nat := if isN x then 0 else if FloatKind.f64.format.order x 0 = some .eq then 0 else if FloatKind.f64.format.order x 4719772409484279808 = some .gt then 4719772409484279808 else if FloatKind.f64.format.order x 13943144446339055616 = some .lt then 13943144446339055616 else x
set_option maxRecDepth 100000 in
theorem lSign (x : Nat) (w : World) : Calls Tryz.prog 20 #[.float .f64 x] w fun e w' => e = .returned (.float .f64 (signW x)) ∧ w = w' := by
  unfold signW
  rcases h : FloatKind.f64.format.order x 0 with _ | o
  · go_enter Tryz.func20, Tryz.ntmps20
    go_wp2
    go_ret
    exact ⟨rfl, rfl⟩
  · cases o
    all_goals
      go_enter Tryz.func20, Tryz.ntmps20
      go_wp2
      go_ret
      exact ⟨rfl, rfl⟩
set_option maxRecDepth 100000 in
theorem rSign (x : Nat) (w : World) : Calls Tryz.prog 21 #[.float .f64 x] w fun e w' => e = .returned (.float .f64 (signW x)) ∧ w = w' := by
  unfold signW
  rcases h : FloatKind.f64.format.order x 0 with _ | o
  · go_enter Tryz.func21, Tryz.ntmps21
    go_wp2
    go_ret
    exact ⟨rfl, rfl⟩
  · cases o
    all_goals
      go_enter Tryz.func21, Tryz.ntmps21
      go_wp2
      go_ret
      exact ⟨rfl, rfl⟩
set_option maxRecDepth 100000 in
set_option maxHeartbeats 1000000 in
theorem lUsed (x : Nat) (w : World) (hx : U x) : Calls Tryz.prog 22 #[.float .f64 x] w fun e w' => e = .returned (.float .f64 (usedO x)) ∧ w = w' := by
  have C1 := Lib.hid (fun w => c129 x w hx)
  clear hx
  unfold usedO
  by_cases h1 : isN x = true
  · rw [if_pos h1]
    rw [h1] at C1
    go_enter Tryz.func22, Tryz.ntmps22
    go_wp2_with (go_at_call 34; refine (C1.out _).mono ?_; rintro e w' ⟨rfl, rfl⟩)
    go_ret
    exact ⟨rfl, rfl⟩
  · rw [if_neg h1]
    have h1 : isN x = false := by cases e : isN x; rfl; exact absurd e h1
    rw [h1] at C1
    by_cases h2 : FloatKind.f64.format.order x 0 = some .eq
    · rw [if_pos h2]
      go_enter Tryz.func22, Tryz.ntmps22
      go_wp2_with (go_at_call 34; refine (C1.out _).mono ?_; rintro e w' ⟨rfl, rfl⟩)
      go_ret
      exact ⟨rfl, rfl⟩
    · rw [if_neg h2]
      have k2 : (FloatKind.f64.format.order x 0 == some .eq) = false := beq_eq_false_iff_ne.2 h2
      by_cases h3 : FloatKind.f64.format.order x 4719772409484279808 = some .gt
      · rw [if_pos h3]
        go_enter Tryz.func22, Tryz.ntmps22
        go_wp2_with (go_at_call 34; refine (C1.out _).mono ?_; rintro e w' ⟨rfl, rfl⟩)
        go_ret
        exact ⟨rfl, rfl⟩
      · rw [if_neg h3]
        have k3 : (FloatKind.f64.format.order x 4719772409484279808 == some .gt) = false := beq_eq_false_iff_ne.2 h3
        by_cases h4 : FloatKind.f64.format.order x 13943144446339055616 = some .lt
        · rw [if_pos h4]
          go_enter Tryz.func22, Tryz.ntmps22
          go_wp2_with (go_at_call 34; refine (C1.out _).mono ?_; rintro e w' ⟨rfl, rfl⟩)
          go_ret
          exact ⟨rfl, rfl⟩
        · rw [if_neg h4]
          have k4 : (FloatKind.f64.format.order x 13943144446339055616 == some .lt) = false := beq_eq_false_iff_ne.2 h4
          go_enter Tryz.func22, Tryz.ntmps22
          go_wp2_with (go_at_call 34; refine (C1.out _).mono ?_; rintro e w' ⟨rfl, rfl⟩)
          go_ret
          exact ⟨rfl, rfl⟩
set_option maxRecDepth 100000 in
set_option maxHeartbeats 1000000 in
theorem rUsed (x : Nat) (w : World) (hx : U x) : Calls Tryz.prog 23 #[.float .f64 x] w fun e w' => e = .returned (.float .f64 (usedO x)) ∧ w = w' := by
  have o1 := ord_self x hx
  clear hx
  unfold usedO
  by_cases h1 : isN x = true
  · rw [if_pos h1]
    rw [h1, if_pos rfl] at o1
    go_enter Tryz.func23, Tryz.ntmps23
    go_wp2
    go_ret
    exact ⟨rfl, rfl⟩
  · rw [if_neg h1]
    have h1 : isN x = false := by cases e : isN x; rfl; exact absurd e h1
    rw [h1, if_neg (by decide)] at o1
    by_cases h2 : FloatKind.f64.format.order x 0 = some .eq
    · rw [if_pos h2]
      go_enter Tryz.func23, Tryz.ntmps23
      go_wp2
      go_ret
      exact ⟨rfl, rfl⟩
    · rw [if_neg h2]
      have k2 : (FloatKind.f64.format.order x 0 == some .eq) = false := beq_eq_false_iff_ne.2 h2
      by_cases h3 : FloatKind.f64.format.order x 4719772409484279808 = some .gt
      · rw [if_pos h3]
        go_enter Tryz.func23, Tryz.ntmps23
        go_wp2
        go_ret
        exact ⟨rfl, rfl⟩
      · rw [if_neg h3]
        have k3 : (FloatKind.f64.format.order x 4719772409484279808 == some .gt) = false := beq_eq_false_iff_ne.2 h3
        by_cases h4 : FloatKind.f64.format.order x 13943144446339055616 = some .lt
        · rw [if_pos h4]
          go_enter Tryz.func23, Tryz.ntmps23
          go_wp2
          go_ret
          exact ⟨rfl, rfl⟩
        · rw [if_neg h4]
          have k4 : (FloatKind.f64.format.order x 13943144446339055616 == some .lt) = false := beq_eq_false_iff_ne.2 h4
          go_enter Tryz.func23, Tryz.ntmps23
          go_wp2
          go_ret
          exact ⟨rfl, rfl⟩
end Go.Proofs.YthohhepoddnbnaaGreatDoor

namespace Go.Proofs.YthohhepoddnbnaaGreatDoor
open Go.RowKit Fl

/-- what is left, by the sign of the second one -/
def modN (x y : Nat) : Nat := if sg x = sg y ∨ Fl.val 52 (rg x) % Fl.val 52 (rg y) = 0 then Fl.val 52 (rg x) % Fl.val 52 (rg y) else Fl.val 52 (rg y) - Fl.val 52 (rg x) % Fl.val 52 (rg y)
def modF (x y : Nat) : Nat := word (sg y) (rnd (modN x y))
theorem NV.len {w : World} {v : Value} {n : Nat} (h : NV w v n) : ∃ A m c, v = .slice A m c ∧ (m = 0 ↔ n = 0) := by
  obtain ⟨l, hl, hc, rfl⟩ := h
  obtain ⟨A, c, e⟩ := hl.form
  refine ⟨A, l.length, c, e, fun h0 => by rw [List.eq_nil_of_length_eq_zero h0]; rfl, fun h0 => by rw [val_zero hc h0]; rfl⟩
set_option maxRecDepth 100000 in
set_option maxHeartbeats 2000000 in
theorem lModN (x y : Nat) (w : World) (hx : U x) (hy : U y) (h : remN x y) : Calls Tryz.prog 16 #[.float .f64 x, .float .f64 y] w fun e w' => e = .returned (.float .f64 QN) ∧ w = w' := by
  have C1 := Lib.hid (fun w => c129 x w hx)
  have C2 := Lib.hid (fun w => c129 y w hy)
  have C3 := Lib.hid (fun w => c130 x w hx)
  have C4 := Lib.hid (fun w => c130 y w hy)
  have C5 := Lib.hid (fun w => c135 w)
  have S1 := Lib.hid (fun w => lSignbit x w hx)
  have S2 := Lib.hid (fun w => lSignbit y w hy)
  have H := remN_cases h
  clear h hx hy
  generalize sg x = s1 at *
  generalize sg y = s2 at *
  rcases H with h1 | ⟨h1, h2⟩ | ⟨h1, h2, h3⟩ | ⟨h1, h2, h3, h4⟩
  · rw [h1] at C1
    go_enter Tryz.func16, Tryz.ntmps16
    go_wp2_with (first
      | (go_at_call 34; with_reducible refine (C1.out _).mono ?_; rintro e w' ⟨rfl, rfl⟩)
      | (go_at_call 34; with_reducible refine (C2.out _).mono ?_; rintro e w' ⟨rfl, rfl⟩)
      | (go_at_call 35; with_reducible refine (C3.out _).mono ?_; rintro e w' ⟨rfl, rfl⟩)
      | (go_at_call 35; with_reducible refine (C4.out _).mono ?_; rintro e w' ⟨rfl, rfl⟩)
      | (go_at_call 60; with_reducible refine (S1.out _).mono ?_; rintro e w' ⟨rfl, rfl⟩)
      | (go_at_call 60; with_reducible refine (S2.out _).mono ?_; rintro e w' ⟨rfl, rfl⟩)
      | (go_at_call 36; refine (C5.out _).mono ?_; rintro e w' ⟨rfl, rfl⟩))
    go_ret
    exact ⟨rfl, rfl⟩
  · rw [h1] at C1
    rw [h2] at C2
    go_enter Tryz.func16, Tryz.ntmps16
    go_wp2_with (first
      | (go_at_call 34; with_reducible refine (C1.out _).mono ?_; rintro e w' ⟨rfl, rfl⟩)
      | (go_at_call 34; with_reducible refine (C2.out _).mono ?_; rintro e w' ⟨rfl, rfl⟩)
      | (go_at_call 35; with_reducible refine (C3.out _).mono ?_; rintro e w' ⟨rfl, rfl⟩)
      | (go_at_call 35; with_reducible refine (C4.out _).mono ?_; rintro e w' ⟨rfl, rfl⟩)
      | (go_at_call 60; with_reducible refine (S1.out _).mono ?_; rintro e w' ⟨rfl, rfl⟩)
      | (go_at_call 60; with_reducible refine (S2.out _).mono ?_; rintro e w' ⟨rfl, rfl⟩)
      | (go_at_call 36; refine (C5.out _).mono ?_; rintro e w' ⟨rfl, rfl⟩))
    go_ret
    exact ⟨rfl, rfl⟩
  · rw [h1] at C1
    rw [h2] at C2
    rw [h3] at C3
    go_enter Tryz.func16, Tryz.ntmps16
    go_wp2_with (first
      | (go_at_call 34; with_reducible refine (C1.out _).mono ?_; rintro e w' ⟨rfl, rfl⟩)
      | (go_at_call 34; with_reducible refine (C2.out _).mono ?_; rintro e w' ⟨rfl, rfl⟩)
      | (go_at_call 35; with_reducible refine (C3.out _).mono ?_; rintro e w' ⟨rfl, rfl⟩)
      | (go_at_call 35; with_reducible refine (C4.out _).mono ?_; rintro e w' ⟨rfl, rfl⟩)
      | (go_at_call 60; with_reducible refine (S1.out _).mono ?_; rintro e w' ⟨rfl, rfl⟩)
      | (go_at_call 60; with_reducible refine (S2.out _).mono ?_; rintro e w' ⟨rfl, rfl⟩)
      | (go_at_call 36; refine (C5.out _).mono ?_; rintro e w' ⟨rfl, rfl⟩))
    go_ret
    exact ⟨rfl, rfl⟩
  · rw [h1] at C1
    rw [h2] at C2
    rw [h3] at C3
    go_enter Tryz.func16, Tryz.ntmps16
    go_wp2_with (first
      | (go_at_call 34; with_reducible refine (C1.out _).mono ?_; rintro e w' ⟨rfl, rfl⟩)
      | (go_at_call 34; with_reducible refine (C2.out _).mono ?_; rintro e w' ⟨rfl, rfl⟩)
      | (go_at_call 35; with_reducible refine (C3.out _).mono ?_; rintro e w' ⟨rfl, rfl⟩)
      | (go_at_call 35; with_reducible refine (C4.out _).mono ?_; rintro e w' ⟨rfl, rfl⟩)
      | (go_at_call 60; with_reducible refine (S1.out _).mono ?_; rintro e w' ⟨rfl, rfl⟩)
      | (go_at_call 60; with_reducible refine (S2.out _).mono ?_; rintro e w' ⟨rfl, rfl⟩)
      | (go_at_call 36; refine (C5.out _).mono ?_; rintro e w' ⟨rfl, rfl⟩))
    go_ret
    exact ⟨rfl, rfl⟩
set_option maxRecDepth 100000 in
set_option maxHeartbeats 2000000 in
theorem lModI (x y : Nat) (w : World) (hx : U x) (hy : U y) (h : ¬ remN x y) (hi : isI y = true) : Calls Tryz.prog 16 #[.float .f64 x, .float .f64 y] w fun e w' => e = .returned (.float .f64 (if sg x = sg y then x else QN)) ∧ w = w' := by
  have C1 := Lib.hid (fun w => c129 x w hx)
  have C2 := Lib.hid (fun w => c129 y w hy)
  have C3 := Lib.hid (fun w => c130 x w hx)
  have C4 := Lib.hid (fun w => c130 y w hy)
  have C5 := Lib.hid (fun w => c135 w)
  have S1 := Lib.hid (fun w => lSignbit x w hx)
  have S2 := Lib.hid (fun w => lSignbit y w hy)
  have h1 : isN x = false := by cases e : isN x; rfl; exact absurd (.inl e) h
  have h2 : isN y = false := by cases e : isN y; rfl; exact absurd (.inr (.inl e)) h
  have h3 : isI x = false := by cases e : isI x; rfl; exact absurd (.inr (.inr (.inl e))) h
  have h4 : ¬ FloatKind.f64.format.order y 0 = some .eq := fun e => h (.inr (.inr (.inr e)))
  have h5 : (FloatKind.f64.format.order y 0 == some .eq) = false := beq_eq_false_iff_ne.2 h4
  rw [h1] at C1
  rw [h2] at C2
  rw [h3] at C3
  rw [hi] at C4
  clear h h1 h2 h3 hi hx hy
  generalize sg x = s1 at *
  generalize sg y = s2 at *
  by_cases hs : s1 = s2
  · rw [if_pos hs]
    subst hs
    have q : (s1 == s1) = true := beq_self_eq_true s1
    go_enter Tryz.func16, Tryz.ntmps16
    go_wp2_with (first
      | (go_at_call 34; with_reducible refine (C1.out _).mono ?_; rintro e w' ⟨rfl, rfl⟩)
      | (go_at_call 34; with_reducible refine (C2.out _).mono ?_; rintro e w' ⟨rfl, rfl⟩)
      | (go_at_call 35; with_reducible refine (C3.out _).mono ?_; rintro e w' ⟨rfl, rfl⟩)
      | (go_at_call 35; with_reducible refine (C4.out _).mono ?_; rintro e w' ⟨rfl, rfl⟩)
      | (go_at_call 60; with_reducible refine (S1.out _).mono ?_; rintro e w' ⟨rfl, rfl⟩)
      | (go_at_call 60; with_reducible refine (S2.out _).mono ?_; rintro e w' ⟨rfl, rfl⟩)
      | (go_at_call 36; refine (C5.out _).mono ?_; rintro e w' ⟨rfl, rfl⟩))
    go_ret
    exact ⟨rfl, rfl⟩
  · rw [if_neg hs]
    have q : (s1 == s2) = false := beq_eq_false_iff_ne.2 hs
    go_enter Tryz.func16, Tryz.ntmps16
    go_wp2_with (first
      | (go_at_call 34; with_reducible refine (C1.out _).mono ?_; rintro e w' ⟨rfl, rfl⟩)
      | (go_at_call 34; with_reducible refine (C2.out _).mono ?_; rintro e w' ⟨rfl, rfl⟩)
      | (go_at_call 35; with_reducible refine (C3.out _).mono ?_; rintro e w' ⟨rfl, rfl⟩)
      | (go_at_call 35; with_reducible refine (C4.out _).mono ?_; rintro e w' ⟨rfl, rfl⟩)
      | (go_at_call 60; with_reducible refine (S1.out _).mono ?_; rintro e w' ⟨rfl, rfl⟩)
      | (go_at_call 60; with_reducible refine (S2.out _).mono ?_; rintro e w' ⟨rfl, rfl⟩)
      | (go_at_call 36; refine (C5.out _).mono ?_; rintro e w' ⟨rfl, rfl⟩))
    go_ret
    exact ⟨rfl, rfl⟩
end Go.Proofs.YthohhepoddnbnaaGreatDoor

namespace Go.Proofs.YthohhepoddnbnaaGreatDoor
open Go.RowKit Fl

theorem c61 {w : World} {v u : Value} {x y : Nat} (hv : NV w v x) (hu : NV w u y) (hyx : y ≤ x) (hs : blen x ≤ 64000) :
    Calls Tryz.prog 61 #[v, u] w fun e w' => Below w.heap.size w w' ∧ ∃ v', e = .returned v' ∧ NV w' v' (x - y) :=
  (c61b hv hu hyx hs).mono fun _ _ ⟨a, v', b, c, _⟩ => ⟨a, v', b, c⟩
theorem rem_units (x y : Nat) : pM (rg x) * 2 ^ (pE (rg x) - mE2 x y) % (pM (rg y) * 2 ^ (pE (rg y) - mE2 x y)) * 2 ^ mE2 x y = Fl.val 52 (rg x) % Fl.val 52 (rg y) ∧ pM (rg y) * 2 ^ (pE (rg y) - mE2 x y) * 2 ^ mE2 x y = Fl.val 52 (rg y) := by
  rw [val_parts, val_parts]
  rw [← Nat.mul_mod_mul_right, Nat.mul_assoc, Nat.mul_assoc, ← Nat.pow_add, ← Nat.pow_add]
  have h1 : mE2 x y ≤ pE (rg x) := Nat.min_le_left _ _
  have h2 : mE2 x y ≤ pE (rg y) := Nat.min_le_right _ _
  rw [Nat.sub_add_cancel h1, Nat.sub_add_cancel h2]
  exact ⟨rfl, rfl⟩
theorem near_sub (x y : Nat) : min (near (pM (rg y) * 2 ^ (pE (rg y) - mE2 x y) - pM (rg x) * 2 ^ (pE (rg x) - mE2 x y) % (pM (rg y) * 2 ^ (pE (rg y) - mE2 x y))) ((mE2 x y : Int) - 1074)) INF = rnd (Fl.val 52 (rg y) - Fl.val 52 (rg x) % Fl.val 52 (rg y)) := by
  have h := rem_units x y
  unfold near rnd
  have e1 : ((mE2 x y : Int) - 1074 + 1074).toNat = mE2 x y := by omega
  have e2 : (-1074 - ((mE2 x y : Int) - 1074)).toNat = 0 := by omega
  rw [e1, e2, Nat.sub_mul, h.1, h.2]
theorem rem_zero (x y : Nat) : pM (rg x) * 2 ^ (pE (rg x) - mE2 x y) % (pM (rg y) * 2 ^ (pE (rg y) - mE2 x y)) = 0 ↔ Fl.val 52 (rg x) % Fl.val 52 (rg y) = 0 := by
  have h := (rem_units x y).1
  rw [← h]
  constructor
  · intro h0; rw [h0, Nat.zero_mul]
  · intro h0
    rcases Nat.mul_eq_zero.1 h0 with h1 | h1
    · exact h1
    · have := Nat.two_pow_pos (mE2 x y); omega
set_option maxRecDepth 100000 in
set_option maxHeartbeats 4000000 in
theorem lModF (x y : Nat) (w : World) (hx : U x) (hy : U y) (h : ¬ remN x y) (hi : isI y = false) : Calls Tryz.prog 16 #[.float .f64 x, .float .f64 y] w fun e w' => e = .returned (.float .f64 (modF x y)) ∧ Below w.heap.size w w' := by
  have C1 := Lib.hid (fun w => c129 x w hx)
  have C2 := Lib.hid (fun w => c129 y w hy)
  have C3 := Lib.hid (fun w => c130 x w hx)
  have C4 := Lib.hid (fun w => c130 y w hy)
  have h1 : isN x = false := by cases e : isN x; rfl; exact absurd (.inl e) h
  have h2 : isN y = false := by cases e : isN y; rfl; exact absurd (.inr (.inl e)) h
  have h3 : isI x = false := by cases e : isI x; rfl; exact absurd (.inr (.inr (.inl e))) h
  have h4 : ¬ FloatKind.f64.format.order y 0 = some .eq := fun e => h (.inr (.inr (.inr e)))
  have h5 : (FloatKind.f64.format.order y 0 == some .eq) = false := beq_eq_false_iff_ne.2 h4
  have fx := fin_of x h1 h3
  have fy := fin_of y h2 hi
  have hp := pM_pos (rg y) (fun e => h4 (order_zero y hy h2 e))
  have CB := Lib.hid (fun w => lBoth x y w hx hy fx fy)
  have S1 := Lib.hid (fun w => lSignbit x w hx)
  have S2 := Lib.hid (fun w => lSignbit y w hy)
  have l1 := pE_le _ fx
  have l2 := pE_le _ fy
  have hA : blen (pM (rg x) * 2 ^ (pE (rg x) - mE2 x y)) ≤ 3000 := Nat.le_trans (blen_shl _ _) (by have := blen_lt _ _ (pM_lt (rg x)); omega)
  have hB : blen (pM (rg y) * 2 ^ (pE (rg y) - mE2 x y)) ≤ 3000 := Nat.le_trans (blen_shl _ _) (by have := blen_lt _ _ (pM_lt (rg y)); omega)
  have hB0 : 0 < pM (rg y) * 2 ^ (pE (rg y) - mE2 x y) := Nat.mul_pos hp (Nat.two_pow_pos _)
  have NR := near_rem x y
  have NS := near_sub x y
  have hM : modN x y = if sg x = sg y ∨ Fl.val 52 (rg x) % Fl.val 52 (rg y) = 0 then Fl.val 52 (rg x) % Fl.val 52 (rg y) else Fl.val 52 (rg y) - Fl.val 52 (rg x) % Fl.val 52 (rg y) := rfl
  have hZ := rem_zero x y
  have hE : mE2 x y ≤ 2045 := Nat.le_trans (Nat.min_le_left _ _) l1
  unfold modF
  rw [h1] at C1
  rw [h2] at C2
  rw [h3] at C3
  rw [hi] at C4
  clear h h1 h2 h3 hi hx hy fx fy hp l1 l2
  rw [hM]
  clear hM
  generalize Fl.val 52 (rg x) % Fl.val 52 (rg y) = R at *
  generalize Fl.val 52 (rg y) = Y at *
  generalize pM (rg x) * 2 ^ (pE (rg x) - mE2 x y) = A at *
  generalize pM (rg y) * 2 ^ (pE (rg y) - mE2 x y) = B at *
  generalize mE2 x y = E0 at *
  generalize sg x = s1 at *
  generalize sg y = s2 at *
  have hle : A % B ≤ B := Nat.le_of_lt (Nat.mod_lt _ hB0)
  have hR : blen (A % B) ≤ 4000 := Nat.le_trans (blen_mono hle) (by omega)
  have hD : blen (B - A % B) ≤ 4000 := Nat.le_trans (blen_mono (Nat.sub_le _ _)) (by omega)
  have CQ := Lib.hid (fun (w : World) v u (hv : NV w v A) (hu : NV w u B) => c39 hv hu hB0 (by omega) (by omega))
  have CD := Lib.hid (fun (w : World) v u (hv : NV w v B) (hu : NV w u (A % B)) => c61 hv hu hle (by omega))
  by_cases hz : A % B = 0
  · rw [if_pos (.inr (hZ.1 hz)), ← NR]
    have CN := Lib.hid (fun (w : World) v (hv : NV w v (A % B)) => lNear s2 hv hR (show -1074 ≤ (E0 : Int) - 1074 by omega) (by omega))
    have HZ0 := Lib.hid hz
    clear hA hB hB0 hR hE hD hle NR NS hZ hz CD
    generalize min (near (A % B) ((E0 : Int) - 1074)) INF = r at *
    go_enter Tryz.func16, Tryz.ntmps16
    go_wp2_with (first
      | (go_at_call 34; with_reducible refine (C1.out _).mono ?_; rintro e w' ⟨rfl, rfl⟩)
      | (go_at_call 34; with_reducible refine (C2.out _).mono ?_; rintro e w' ⟨rfl, rfl⟩)
      | (go_at_call 35; with_reducible refine (C3.out _).mono ?_; rintro e w' ⟨rfl, rfl⟩)
      | (go_at_call 35; with_reducible refine (C4.out _).mono ?_; rintro e w' ⟨rfl, rfl⟩)
      | (go_at_call 60; with_reducible refine (S1.out _).mono ?_; rintro e w' ⟨rfl, rfl⟩)
      | (go_at_call 60; with_reducible refine (S2.out _).mono ?_; rintro e w' ⟨rfl, rfl⟩)
      | (go_at_call 38; refine (CB.out _).mono ?_; rintro e w1 ⟨hb1, v, u, rfl, hv, hu⟩; have I := Lib.hid (And.intro hb1 (And.intro hv hu)); clear hb1 hv hu CB)
      | (go_at_call 39; refine (CQ.out _ _ _ I.out.2.1 I.out.2.2).mono ?_; rintro e w2 ⟨hb2, v1, v2, rfl, _, hv2⟩; have J := Lib.hid (And.intro (I.out.1.trans (hb2.mono I.out.1.size)) (And.intro hv2 (I.out.2.2.below hb2))); obtain ⟨A', m, c', rfl, hm⟩ := hv2.len; have hm0 : m = 0 := hm.2 HZ0.out; subst hm0; clear hb2 hv2 hm CQ I)
      | (go_at_call 61; refine (CD.out _ _ _ J.out.2.2 J.out.2.1).mono ?_; rintro e w4 ⟨hb4, v4, rfl, hv4⟩; have K := Lib.hid (And.intro (J.out.1.trans (hb4.mono J.out.1.size)) hv4); clear hb4 hv4 CD)
      | (go_at_call 44; refine (CN.out _ _ J.out.2.1).mono ?_; rintro e w3 ⟨rfl, hb3⟩; have L := Lib.hid (J.out.1.trans (hb3.mono J.out.1.size)); clear hb3 CN))
    go_ret
    exact ⟨rfl, L.out⟩
  · have HZ0 := Lib.hid hz
    by_cases hs : s1 = s2
    · rw [if_pos (.inl hs), ← NR]
      have CN := Lib.hid (fun (w : World) v (hv : NV w v (A % B)) => lNear s2 hv hR (show -1074 ≤ (E0 : Int) - 1074 by omega) (by omega))
      clear hA hB hB0 hR hE hD hle NR NS hZ hz CD
      subst hs
      have q : (s1 == s1) = true := beq_self_eq_true s1
      generalize min (near (A % B) ((E0 : Int) - 1074)) INF = r at *
      go_enter Tryz.func16, Tryz.ntmps16
      go_wp2_with (first
        | (go_at_call 34; with_reducible refine (C1.out _).mono ?_; rintro e w' ⟨rfl, rfl⟩)
        | (go_at_call 34; with_reducible refine (C2.out _).mono ?_; rintro e w' ⟨rfl, rfl⟩)
        | (go_at_call 35; with_reducible refine (C3.out _).mono ?_; rintro e w' ⟨rfl, rfl⟩)
        | (go_at_call 35; with_reducible refine (C4.out _).mono ?_; rintro e w' ⟨rfl, rfl⟩)
        | (go_at_call 60; with_reducible refine (S1.out _).mono ?_; rintro e w' ⟨rfl, rfl⟩)
        | (go_at_call 60; with_reducible refine (S2.out _).mono ?_; rintro e w' ⟨rfl, rfl⟩)
        | (go_at_call 38; refine (CB.out _).mono ?_; rintro e w1 ⟨hb1, v, u, rfl, hv, hu⟩; have I := Lib.hid (And.intro hb1 (And.intro hv hu)); clear hb1 hv hu CB)
        | (go_at_call 39; refine (CQ.out _ _ _ I.out.2.1 I.out.2.2).mono ?_; rintro e w2 ⟨hb2, v1, v2, rfl, _, hv2⟩; have J := Lib.hid (And.intro (I.out.1.trans (hb2.mono I.out.1.size)) (And.intro hv2 (I.out.2.2.below hb2))); obtain ⟨A', m, c', rfl, hm⟩ := hv2.len; have hm0 : 0 < m := Nat.pos_of_ne_zero (fun e => HZ0.out (hm.1 e)); clear hb2 hv2 hm CQ I)
        | (go_at_call 61; refine (CD.out _ _ _ J.out.2.2 J.out.2.1).mono ?_; rintro e w4 ⟨hb4, v4, rfl, hv4⟩; have K := Lib.hid (And.intro (J.out.1.trans (hb4.mono J.out.1.size)) hv4); clear hb4 hv4 CD)
        | (go_at_call 44; refine (CN.out _ _ J.out.2.1).mono ?_; rintro e w3 ⟨rfl, hb3⟩; have L := Lib.hid (J.out.1.trans (hb3.mono J.out.1.size)); clear hb3 CN))
      go_ret
      exact ⟨rfl, L.out⟩
    · rw [if_neg (fun e => e.elim hs (fun e => hz (hZ.2 e))), ← NS]
      have CN := Lib.hid (fun (w : World) v (hv : NV w v (B - A % B)) => lNear s2 hv hD (show -1074 ≤ (E0 : Int) - 1074 by omega) (by omega))
      clear hA hB hB0 hR hE hD hle NR NS hZ hz
      have q : (s1 == s2) = false := beq_eq_false_iff_ne.2 hs
      clear hs
      generalize min (near (B - A % B) ((E0 : Int) - 1074)) INF = r at *
      go_enter Tryz.func16, Tryz.ntmps16
      go_wp2_with (first
        | (go_at_call 34; with_reducible refine (C1.out _).mono ?_; rintro e w' ⟨rfl, rfl⟩)
        | (go_at_call 34; with_reducible refine (C2.out _).mono ?_; rintro e w' ⟨rfl, rfl⟩)
        | (go_at_call 35; with_reducible refine (C3.out _).mono ?_; rintro e w' ⟨rfl, rfl⟩)
        | (go_at_call 35; with_reducible refine (C4.out _).mono ?_; rintro e w' ⟨rfl, rfl⟩)
        | (go_at_call 60; with_reducible refine (S1.out _).mono ?_; rintro e w' ⟨rfl, rfl⟩)
        | (go_at_call 60; with_reducible refine (S2.out _).mono ?_; rintro e w' ⟨rfl, rfl⟩)
        | (go_at_call 38; refine (CB.out _).mono ?_; rintro e w1 ⟨hb1, v, u, rfl, hv, hu⟩; have I := Lib.hid (And.intro hb1 (And.intro hv hu)); clear hb1 hv hu CB)
        | (go_at_call 39; refine (CQ.out _ _ _ I.out.2.1 I.out.2.2).mono ?_; rintro e w2 ⟨hb2, v1, v2, rfl, _, hv2⟩; have J := Lib.hid (And.intro (I.out.1.trans (hb2.mono I.out.1.size)) (And.intro hv2 (I.out.2.2.below hb2))); obtain ⟨A', m, c', rfl, hm⟩ := hv2.len; have hm0 : 0 < m := Nat.pos_of_ne_zero (fun e => HZ0.out (hm.1 e)); clear hb2 hv2 hm CQ I)
        | (go_at_call 61; refine (CD.out _ _ _ J.out.2.2 J.out.2.1).mono ?_; rintro e w4 ⟨hb4, v4, rfl, hv4⟩; have K := Lib.hid (And.intro (J.out.1.trans (hb4.mono J.out.1.size)) hv4); clear hb4 hv4 CD)
        | (go_at_call 44; refine (CN.out _ _ K.out.2).mono ?_; rintro e w3 ⟨rfl, hb3⟩; have L := Lib.hid (K.out.1.trans (hb3.mono K.out.1.size)); clear hb3 CN))
      go_ret
      exact ⟨rfl, L.out⟩
end Go.Proofs.YthohhepoddnbnaaGreatDoor
