/- An Acc: Add. An Acc: Add of a finite number. -/
import Derived.Test.YtedkbjimofiphaaAccE
import Derived.Test.YtedkbjimofiphaaMgSrG
namespace Go.Proofs.Ytedkbjimofiphaa
open Go.RowKit Fl
/-- an Acc and a number more -/
def addS (s : AS) (x : Nat) : AS :=
  ⟨if fin x then s.z + un x else s.z, s.nan || isN x, s.pos || decide (x = 9218868437227405312), s.neg || decide (x = 18442240474082181120), s.any || decide (x ≠ 9223372036854775808)⟩
set_option maxRecDepth 100000 in
set_option maxHeartbeats 1000000 in
theorem c37n (b : Nat) (s : AS) (x : Nat) (w : World) (h : U x) (hx : isN x = true) (hs : AccAt w b s) (hb : b < w.heap.size) :
    Calls Try.prog 21 #[.pointer (some ⟨b, 0, none⟩), .float .f64 x] w fun e w' => e = .returned (.tuple #[]) ∧ AccAt w' b (addS s x) ∧ Only b w w' := by
  have hne : x ≠ 9223372036854775808 := by rintro rfl; exact absurd hx (by decide)
  have e1 : ((x : Int) != 9223372036854775808) = true := by simp; omega
  have hP : addS s x = ⟨s.z, true, s.pos, s.neg, true⟩ := by
    have h1 : fin x = false := by unfold isN at hx; unfold fin; have := of_decide_eq_true hx; exact decide_eq_false (by omega)
    have h2 : ¬ x = 9218868437227405312 := by rintro rfl; exact absurd hx (by decide)
    have h3 : ¬ x = 18442240474082181120 := by rintro rfl; exact absurd hx (by decide)
    unfold addS; rw [h1, hx, decide_eq_false h2, decide_eq_false h3, decide_eq_true hne]; simp
  have A := Lib.hid ((hs.set3 true).set0 true)
  have O := Lib.hid (((Only.refl b w).setCell (o := 43) (.bool true)).setCell (o := 40) (.bool true))
  have HU := Lib.hid h
  have HN := Lib.hid hx
  have HP := Lib.hid hP
  obtain ⟨_, k0, k1, k2, k3, f0, f1, f2, f3⟩ := hs
  clear hne h hx hP
  go_enter Try.func21, Try.ntmps21
  go_wp2_with (first | (go_at_call 44; refine (x128 _ _).mono ?_; rintro e w' ⟨rfl, rfl⟩) | (go_at_call 37; refine (c129 x _ HU.out).mono ?_; rintro e w' ⟨rfl, rfl⟩; rw [HN.out]))
  refine bodyPost_ret (v := .tuple #[]) (by simp [results, Try.results21, go_sem]) rfl ⟨rfl, ?_, ?_⟩
  · rw [HP.out]; exact A.out
  · exact O.out
set_option maxRecDepth 100000 in
set_option maxHeartbeats 1000000 in
theorem c37ip (b : Nat) (s : AS) (w : World) (hs : AccAt w b s) :
    Calls Try.prog 21 #[.pointer (some ⟨b, 0, none⟩), .float .f64 9218868437227405312] w fun e w' => e = .returned (.tuple #[]) ∧ AccAt w' b (addS s 9218868437227405312) ∧ Only b w w' := by
  have hP : addS s 9218868437227405312 = ⟨s.z, s.nan, s.pos || true, s.neg || false, true⟩ := by
    unfold addS
    rw [show fin 9218868437227405312 = false by decide, show isN 9218868437227405312 = false by decide, Bool.or_false]
    simp
  have A := Lib.hid (((hs.set3 true).set1 (s.pos || true)).set2 (s.neg || false))
  have O := Lib.hid ((((Only.refl b w).setCell (o := 43) (.bool true)).setCell (o := 41) (.bool (s.pos || true))).setCell (o := 42) (.bool (s.neg || false)))
  have hu : U 9218868437227405312 := by unfold U; decide
  have g1 : (FloatKind.f64.format.order 9218868437227405312 0 == some Ordering.gt) = true := by decide
  have g2 : (FloatKind.f64.format.order 9218868437227405312 0 == some Ordering.lt) = false := by decide
  have HP := Lib.hid hP
  have h2 : isN 9218868437227405312 = false := by decide
  have h3 : isI 9218868437227405312 = true := by decide
  have HU := Lib.hid (And.intro hu (And.intro h2 h3))
  obtain ⟨_, k0, k1, k2, k3, f0, f1, f2, f3⟩ := hs
  clear hP hu h2 h3
  obtain ⟨z, nan, pos, neg, any⟩ := s
  simp only at k0 k1 k2 k3 A O HP
  cases pos <;> cases neg
  all_goals
    go_enter Try.func21, Try.ntmps21
    go_wp2_with (first | (go_at_call 44; refine (x128 _ _).mono ?_; rintro e w' ⟨rfl, rfl⟩) | (go_at_call 37; refine (c129 _ _ HU.out.1).mono ?_; rintro e w' ⟨rfl, rfl⟩; rw [HU.out.2.1]) | (go_at_call 45; refine (c130 _ _ HU.out.1).mono ?_; rintro e w' ⟨rfl, rfl⟩; rw [HU.out.2.2]))
    refine bodyPost_ret (v := .tuple #[]) (by simp [results, Try.results21, go_sem]) rfl ⟨rfl, ?_, ?_⟩
    · rw [HP.out]; exact A.out
    · exact O.out
set_option maxRecDepth 100000 in
set_option maxHeartbeats 1000000 in
theorem c37im (b : Nat) (s : AS) (w : World) (hs : AccAt w b s) :
    Calls Try.prog 21 #[.pointer (some ⟨b, 0, none⟩), .float .f64 18442240474082181120] w fun e w' => e = .returned (.tuple #[]) ∧ AccAt w' b (addS s 18442240474082181120) ∧ Only b w w' := by
  have hP : addS s 18442240474082181120 = ⟨s.z, s.nan, s.pos || false, s.neg || true, true⟩ := by
    unfold addS
    rw [show fin 18442240474082181120 = false by decide, show isN 18442240474082181120 = false by decide, Bool.or_false]
    simp
  have A := Lib.hid (((hs.set3 true).set1 (s.pos || false)).set2 (s.neg || true))
  have O := Lib.hid ((((Only.refl b w).setCell (o := 43) (.bool true)).setCell (o := 41) (.bool (s.pos || false))).setCell (o := 42) (.bool (s.neg || true)))
  have hu : U 18442240474082181120 := by unfold U; decide
  have g1 : (FloatKind.f64.format.order 18442240474082181120 0 == some Ordering.gt) = false := by decide
  have g2 : (FloatKind.f64.format.order 18442240474082181120 0 == some Ordering.lt) = true := by decide
  have HP := Lib.hid hP
  have h2 : isN 18442240474082181120 = false := by decide
  have h3 : isI 18442240474082181120 = true := by decide
  have HU := Lib.hid (And.intro hu (And.intro h2 h3))
  obtain ⟨_, k0, k1, k2, k3, f0, f1, f2, f3⟩ := hs
  clear hP hu h2 h3
  obtain ⟨z, nan, pos, neg, any⟩ := s
  simp only at k0 k1 k2 k3 A O HP
  cases pos <;> cases neg
  all_goals
    go_enter Try.func21, Try.ntmps21
    go_wp2_with (first | (go_at_call 44; refine (x128 _ _).mono ?_; rintro e w' ⟨rfl, rfl⟩) | (go_at_call 37; refine (c129 _ _ HU.out.1).mono ?_; rintro e w' ⟨rfl, rfl⟩; rw [HU.out.2.1]) | (go_at_call 45; refine (c130 _ _ HU.out.1).mono ?_; rintro e w' ⟨rfl, rfl⟩; rw [HU.out.2.2]))
    refine bodyPost_ret (v := .tuple #[]) (by simp [results, Try.results21, go_sem]) rfl ⟨rfl, ?_, ?_⟩
    · rw [HP.out]; exact A.out
    · exact O.out
end Go.Proofs.Ytedkbjimofiphaa

namespace Go.Proofs.Ytedkbjimofiphaa
open Go.RowKit Fl
theorem wn_shift (m e t : Nat) (hm : m < 9007199254740992) : wn (m * 2 ^ e) t = if t = e / 64 then m * 2 ^ (e % 64) % 18446744073709551616 else if t = e / 64 + 1 then m / 2 ^ (64 - e % 64) else 0 := by
  unfold wn
  obtain ⟨q, r, hr, he⟩ : ∃ q r, r < 64 ∧ e = 64 * q + r := ⟨e / 64, e % 64, by omega, by omega⟩
  have hq : e / 64 = q := by omega
  have hr' : e % 64 = r := by omega
  rw [hq, hr']
  have hV : m * 2 ^ e = m * 2 ^ r * 2 ^ (64 * q) := by rw [he, Nat.pow_add, Nat.mul_assoc, Nat.mul_comm (2 ^ (64 * q))]
  have hp := Nat.two_pow_pos r
  have h2r : 2 ^ r ≤ 2 ^ 63 := Nat.pow_le_pow_right (by decide) (by omega)
  have hmr : m * 2 ^ r < 9007199254740992 * 2 ^ 63 := Nat.lt_of_lt_of_le (Nat.mul_lt_mul_of_pos_right hm hp) (Nat.mul_le_mul_left _ h2r)
  rw [hV]
  rcases Nat.lt_trichotomy t q with h | h | h
  · rw [if_neg (by omega), if_neg (by omega)]
    have : m * 2 ^ r * 2 ^ (64 * q) = (m * 2 ^ r * 2 ^ (64 * (q - t - 1))) * 18446744073709551616 * 2 ^ (64 * t) := by
      rw [show (18446744073709551616 : Nat) = 2 ^ 64 by rfl, Nat.mul_assoc (m * 2 ^ r), Nat.mul_assoc (m * 2 ^ r), ← Nat.pow_add, ← Nat.pow_add]
      congr 2; omega
    rw [this, Nat.mul_div_cancel _ (Nat.two_pow_pos _), Nat.mul_mod_left]
  · subst h
    rw [if_pos rfl, Nat.mul_div_cancel _ (Nat.two_pow_pos _)]
  · rw [if_neg (by omega)]
    have hd : 2 ^ (64 * t) = 2 ^ (64 * q) * 2 ^ (64 * (t - q)) := by rw [← Nat.pow_add]; congr 1; omega
    rw [hd, Nat.mul_comm (m * 2 ^ r), Nat.mul_div_mul_left _ _ (Nat.two_pow_pos _)]
    by_cases h1 : t = q + 1
    · rw [if_pos h1, show t - q = 1 by omega, Nat.mul_one]
      have h64 : (2 : Nat) ^ 64 = 2 ^ (64 - r) * 2 ^ r := by rw [← Nat.pow_add]; congr 1; omega
      rw [h64, Nat.mul_div_mul_right _ _ hp]
      exact Nat.mod_eq_of_lt (Nat.lt_of_le_of_lt (Nat.div_le_self _ _) (by omega))
    · rw [if_neg h1]
      have : m * 2 ^ r < 2 ^ (64 * (t - q)) := Nat.lt_of_lt_of_le (Nat.lt_of_lt_of_le hmr (by decide : 9007199254740992 * 2 ^ 63 ≤ 2 ^ (64 * 2))) (Nat.pow_le_pow_right (by decide) (by omega))
      rw [Nat.div_eq_of_lt this]
def mM (x : Nat) : Nat := if eM x = 0 then fM x else 4503599627370496 + fM x
def mE (x : Nat) : Nat := if eM x = 0 then 0 else eM x - 1
theorem mM_lt (x : Nat) : mM x < 9007199254740992 := by unfold mM fM; split <;> omega
theorem mE_le (x : Nat) (h : fin x = true) : mE x ≤ 2045 := by
  have := of_decide_eq_true h
  unfold INF rg at this
  unfold mE eM
  split <;> omega
theorem val_mm (x : Nat) : val 52 (rg x) = mM x * 2 ^ mE x := by
  have h1 : rg x / 4503599627370496 = eM x := by unfold rg eM; omega
  have h2 : rg x % 4503599627370496 = fM x := by unfold rg fM; omega
  unfold val mM mE
  rw [show (2 : Nat) ^ 52 = 4503599627370496 by rfl, h1, h2]
  by_cases h : eM x = 0
  · rw [if_pos (by omega), if_pos h, if_pos h, Nat.pow_zero, Nat.mul_one]; omega
  · rw [if_neg (by omega), if_neg h, if_neg h]
theorem b_hid (x : Nat) (h : fM x < 4503599627370496) : bits .or .u64 (fM x : Int) 4503599627370496 = ((4503599627370496 + fM x : Nat) : Int) := by
  have e := b_field 1 (fM x) (by decide) h
  rw [show ((1 : Nat) : Int) * 4503599627370496 = 4503599627370496 by rfl] at e
  rw [e]; unfold nw; rfl
theorem row_shift {w : World} {c : Nat} (M E : Nat) (hM : M < 9007199254740992) (v0 v1 : Int) (h0 : v0 = IntKind.u64.wrap ((M : Int) * 2 ^ (E % 64))) (h1 : v1 = (M : Int) / 2 ^ (64 - E % 64))
    (h : Row w c (fun j => if j = E / 64 + 1 then v1 else if j = E / 64 then v0 else 0)) : Row w c (wd ((M * 2 ^ E : Nat) : Int)) := by
  refine h.congr fun j _ => ?_
  rw [wd_nat, wn_shift M E j hM]
  have e0 : v0 = ((M * 2 ^ (E % 64) % 18446744073709551616 : Nat) : Int) := by rw [h0, IntKind.wrap_u64, Int.natCast_emod, Int.natCast_mul, Int.natCast_pow]; rfl
  have e1 : v1 = ((M / 2 ^ (64 - E % 64) : Nat) : Int) := by rw [h1, Int.natCast_ediv, Int.natCast_pow]; rfl
  by_cases h2 : j = E / 64
  · rw [if_neg (by omega), if_pos h2, if_pos h2, e0]
  · rw [if_neg h2, if_neg h2]
    by_cases h3 : j = E / 64 + 1
    · rw [if_pos h3, if_pos h3, e1]
    · rw [if_neg h3, if_neg h3]; rfl
set_option maxRecDepth 100000 in
set_option maxHeartbeats 4000000 in
theorem c37f (b : Nat) (s : AS) (x : Nat) (w : World) (h : U x) (hx : fin x = true) (hs : AccAt w b s) (hb : b < w.heap.size) :
    Calls Try.prog 21 #[.pointer (some ⟨b, 0, none⟩), .float .f64 x] w fun e w' => e = .returned (.tuple #[]) ∧ AccAt w' b (addS s x) ∧ Only b w w' := by
  have hN : isN x = false := by have := of_decide_eq_true hx; unfold isN; exact decide_eq_false (by omega)
  have hI : isI x = false := by have := of_decide_eq_true hx; unfold isI; exact decide_eq_false (by unfold INF at this; omega)
  have hP : addS s x = ⟨s.z + un x, s.nan, s.pos, s.neg, s.any || decide (x ≠ 9223372036854775808)⟩ := by
    have h2 : ¬ x = 9218868437227405312 := by rintro rfl; exact absurd hx (by decide)
    have h3 : ¬ x = 18442240474082181120 := by rintro rfl; exact absurd hx (by decide)
    unfold addS; rw [hx, hN, decide_eq_false h2, decide_eq_false h3]; simp
  obtain ⟨s1, hs1⟩ : ∃ s1 : AS, s1 = { s with any := s.any || decide (x ≠ 9223372036854775808) } := ⟨_, rfl⟩
  have hP1 : addS s x = { s1 with z := s1.z + un x } := by rw [hP, hs1]
  have HP := Lib.hid hP1
  have HU := Lib.hid (And.intro h (And.intro hN hI))
  have hM := mM_lt x
  have hE := mE_le x hx
  have E1 := Lib.hid (b_frac x h)
  have E2 := Lib.hid (b_exp x h)
  have E3 := Lib.hid (b_sign x h)
  have HV := Lib.hid (val_mm x)
  have HB := Lib.hid hb
  have hf : fM x < 4503599627370496 := by unfold fM; omega
  have E4 := Lib.hid (b_hid x hf)
  have HF := Lib.hid (show eM x < 2048 by unfold eM; omega)
  clear hN hI hP hP1 h hx
  go_enter Try.func21, Try.ntmps21
  go_upto_if 11 with (go_at_call 44; refine (x128 _ _).mono ?_; rintro e w' ⟨rfl, rfl⟩)
  go_cut [] (fun wx => Hid (AccAt wx b s1) ∧ Hid (Only b w wx))
  case first =>
    by_cases hz : x = 9223372036854775808
    · have e1 : ((x : Int) != 9223372036854775808) = false := by rw [hz]; rfl
      have A : Hid (AccAt w b s1) := Lib.hid (by rw [hs1, hz]; simpa using hs)
      have O := Lib.hid (Only.refl b w)
      clear hz hs hs1
      go_wp2
      go_meet
      exact ⟨A, O⟩
    · have e1 : ((x : Int) != 9223372036854775808) = true := by simp; omega
      have A : Hid (AccAt (w.setCell ⟨b, 43, none⟩ (.bool true)) b s1) := Lib.hid (by rw [hs1]; simpa [hz] using hs.set3 true)
      have O := Lib.hid ((Only.refl b w).setCell (o := 43) (.bool true))
      obtain ⟨_, k0, k1, k2, k3, f0, f1, f2, f3⟩ := hs
      clear hz hs1
      go_wp2
      go_meet
      exact ⟨A, O⟩
  case rest =>
    obtain ⟨hA, hO⟩ := hcut
    clear hs1 hs
    have E1 := E1.out
    have E2 := E2.out
    rw [show x % 4503599627370496 = fM x from rfl] at E1
    rw [show x / 4503599627370496 % 2048 = eM x from rfl] at E2
    have hF := HF.out
    go_upto_if 51 with (first | (go_at_call 37; refine (c129 _ _ HU.out.1).mono ?_; rintro e w' ⟨rfl, rfl⟩; rw [HU.out.2.1]) | (go_at_call 45; refine (c130 _ _ HU.out.1).mono ?_; rintro e w' ⟨rfl, rfl⟩; rw [HU.out.2.2]))
    go_cut [5, 6] (fun m e wx => m = .int .u64 (mM x : Int) ∧ e = .int .i64 (mE x : Int) ∧ wx = wc)
    case first =>
      clear hM hE
      have E4 := E4.out
      generalize hk : eM x = k at *
      by_cases h0 : k = 0
      · have hm : mM x = fM x := by unfold mM; rw [if_pos (by omega)]
        have he : mE x = 0 := by unfold mE; rw [if_pos (by omega)]
        have HM := Lib.hid hm
        have HE := Lib.hid he
        subst h0
        clear hm he hk E4
        go_wp2
        go_meet
        exact ⟨by rw [HM.out], by rw [HE.out], rfl⟩
      · have hm : mM x = 4503599627370496 + fM x := by unfold mM; rw [if_neg (by omega)]
        have he : mE x = k - 1 := by unfold mE; rw [if_neg (by omega), hk]
        have HM := Lib.hid hm
        have HE := Lib.hid he
        have hk1 : (0 : Int) < (k : Int) := by omega
        have e5 := Lib.hid (show ((k - 1 : Nat) : Int) = (k : Int) - 1 by omega)
        clear hm he hk h0
        generalize fM x = f at *
        generalize 4503599627370496 + f = g at *
        go_wp2
        go_meet
        exact ⟨by rw [HM.out], by rw [HE.out, e5.out], rfl⟩
    case rest =>
      obtain ⟨rfl, rfl, rfl⟩ := hcut
      clear E1 E2 E4 hf HF hF
      generalize mM x = M at *
      generalize mE x = E at *
      have hsz : w.heap.size ≤ wc.heap.size := hO.out.size
      have A1 : Hid (AccAt (wc.alloc (.cells (Array.replicate 40 (.int .u64 0)) 99)) b s1) := Lib.hid (hA.out.below ((Below.refl wc.heap.size wc).alloc (Nat.le_refl _) _) (by omega))
      have O1 : Hid (Only b w (wc.alloc (.cells (Array.replicate 40 (.int .u64 0)) 99))) := Lib.hid (hO.out.trans (.of_below ((Below.refl wc.heap.size wc).alloc (Nat.le_refl _) _)))
      have R1 := Lib.hid (row_zero wc)
      have L1 := Lib.hid (show wc.heap.size < (wc.alloc (.cells (Array.replicate 40 (.int .u64 0)) 99)).heap.size by simp)
      obtain ⟨c, hc⟩ : ∃ c, c = wc.heap.size := ⟨_, rfl⟩
      have hbc : b < c := by omega
      rw [← hc] at R1 L1
      have HC := Lib.hid hc
      have HSZ := Lib.hid (show w.heap.size ≤ c by omega)
      clear hc hsz
      go_upto_region 13 with fail
      go_cut [7] (fun p wx => p = .pointer (some ⟨c, 0, none⟩) ∧ Hid (AccAt wx b s1) ∧ Hid (Only b w wx) ∧ Hid (Row wx c (fun _ => 0)) ∧ Hid (c < wx.heap.size))
      case first =>
        go_wp2
        go_meet
        exact ⟨by rw [HC.out], A1, O1, R1, L1⟩
      case rest =>
        obtain ⟨rfl, hA, hO, hR, hL⟩ := hcut
        clear A1 O1 R1 L1 HC
        have hq : (E : Int) / 64 < 40 := by omega
        have hq1 : (E : Int) / 64 + 1 < 40 := by omega
        have hr1 : (E : Int) % 64 < 64 := by omega
        obtain ⟨k0, f0⟩ := hR.out (E / 64) (by omega)
        obtain ⟨k1, f1⟩ := hR.out (E / 64 + 1) (by omega)
        go_upto_if 65 with fail
        go_cut [] (fun wx => Hid (AccAt wx b s1) ∧ Hid (Only b w wx) ∧ Hid (Row wx c (wd ((M * 2 ^ E : Nat) : Int))) ∧ Hid (c < wx.heap.size))
        case first =>
          by_cases hr : E % 64 = 0
          · have hri : ¬ (0 : Int) < (E : Int) % 64 := by omega
            have A2 := Lib.hid (hA.out.below ((Below.refl (b + 1) wc).setCell (p := ⟨c, E / 64, none⟩) hbc (.int .u64 (IntKind.u64.wrap ((M : Int) * 2 ^ (E % 64))))) (by omega))
            have O2 := Lib.hid (hO.out.fresh (o := E / 64) HSZ.out (.int .u64 (IntKind.u64.wrap ((M : Int) * 2 ^ (E % 64)))))
            have R2 : Hid (Row (wc.setCell ⟨c, E / 64, none⟩ (.int .u64 (IntKind.u64.wrap ((M : Int) * 2 ^ (E % 64))))) c (wd ((M * 2 ^ E : Nat) : Int))) :=
              Lib.hid (row_shift M E hM _ _ rfl rfl ((hR.out.set (E / 64) (by omega) _).congr fun j _ => by
                by_cases h3 : j = E / 64 + 1
                · rw [if_pos h3, if_neg (by omega), hr]
                  omega
                · rw [if_neg h3]))
            have L2 : Hid (c < (wc.setCell ⟨c, E / 64, none⟩ (.int .u64 (IntKind.u64.wrap ((M : Int) * 2 ^ (E % 64))))).heap.size) := Lib.hid (by simpa using hL.out)
            clear hr
            go_wp2
            go_meet
            exact ⟨A2, O2, R2, L2⟩
          · have hri : (0 : Int) < (E : Int) % 64 := by omega
            have A2 := Lib.hid (hA.out.below (((Below.refl (b + 1) wc).setCell (p := ⟨c, E / 64, none⟩) hbc (.int .u64 (IntKind.u64.wrap ((M : Int) * 2 ^ (E % 64))))).setCell (p := ⟨c, E / 64 + 1, none⟩) hbc (.int .u64 ((M : Int) / 2 ^ (64 - E % 64)))) (by omega))
            have O2 := Lib.hid ((hO.out.fresh (o := E / 64) HSZ.out (.int .u64 (IntKind.u64.wrap ((M : Int) * 2 ^ (E % 64))))).fresh (o := E / 64 + 1) HSZ.out (.int .u64 ((M : Int) / 2 ^ (64 - E % 64))))
            have R2 := Lib.hid (row_shift (w := (wc.setCell ⟨c, E / 64, none⟩ (.int .u64 (IntKind.u64.wrap ((M : Int) * 2 ^ (E % 64))))).setCell ⟨c, E / 64 + 1, none⟩ (.int .u64 ((M : Int) / 2 ^ (64 - E % 64)))) M E hM _ _ rfl rfl
              (((hR.out.set (E / 64) (by omega) _).set (E / 64 + 1) (by omega) _)))
            have L2 : Hid (c < ((wc.setCell ⟨c, E / 64, none⟩ (.int .u64 (IntKind.u64.wrap ((M : Int) * 2 ^ (E % 64))))).setCell ⟨c, E / 64 + 1, none⟩ (.int .u64 ((M : Int) / 2 ^ (64 - E % 64)))).heap.size) := Lib.hid (by simpa using hL.out)
            clear hr
            go_wp2
            go_meet
            exact ⟨A2, O2, R2, L2⟩
        case rest =>
          obtain ⟨hA2, hO2, hR2, hL2⟩ := hcut
          have e3 := E3.out
          have hun : Hid (un x = if sg x then -((M * 2 ^ E : Nat) : Int) else ((M * 2 ^ E : Nat) : Int)) := Lib.hid (by unfold un; rw [HV.out])
          clear hA hO hR hL k0 f0 k1 f1 hq hq1 hr1 E1 E2 E3 HV hM hE
          generalize ((M * 2 ^ E : Nat) : Int) = V at *
          go_upto_if 77 with fail
          go_cut [] (fun wx => Hid (AccAt wx b s1) ∧ Hid (Only b w wx) ∧ Hid (Row wx c (wd (un x))) ∧ Hid (c < wx.heap.size))
          case first =>
            cases hsg : sg x
            · rw [hsg] at e3 hun
              rw [if_neg (by decide)] at e3
              have RR : Hid (Row wc c (wd (un x))) := Lib.hid (by rw [hun.out, if_neg (by decide)]; exact hR2.out)
              go_wp2
              go_meet
              exact ⟨hA2, hO2, RR, hL2⟩
            · rw [hsg] at e3 hun
              rw [if_pos rfl] at e3
              go_wp2_with (first
                | (refine wpList_load_mid rfl 99 (.tmp 7) rfl c 0 rfl (WL V) _ hR2.out.range Try.underlying99 rfl (len138 _) ?_)
                | (go_at_call 46; fail))
              refine (c142 V _).mono ?_
              rintro e w2 ⟨rfl, hb2⟩
              have R3 := Lib.hid (hR2.out.below hb2 hL2.out)
              have A3 := Lib.hid (hA2.out.below hb2 (by have := hL2.out; omega))
              have O3 := Lib.hid (hO2.out.below_fresh (hb2.mono hO2.out.size))
              have L3 := Lib.hid (Nat.lt_of_lt_of_le hL2.out hb2.size)
              clear hb2 hR2 hA2 hO2 hL2
              have hT : w2.there c 0 (WL (-V)).toArray.size := R3.out.there (by simp [WL_len])
              have hi : (Try.prog.info? 99).map (·.size) = some (WL (-V)).toArray.size := by rw [size138]; simp [WL_len]
              have HT := Lib.hid (And.intro hT (And.intro hi (WL_one (-V))))
              have R4 : Hid (Row (w2.setCells c 0 (WL (-V))) c (wd (un x))) := Lib.hid (by rw [hun.out, if_pos trivial]; exact R3.out.setAll (-V))
              have A4 := Lib.hid (A3.out.apart (by omega : b ≠ c) 0 (WL (-V)))
              have O4 := Lib.hid (O3.out.freshs HSZ.out 0 (WL (-V)))
              have L4 : Hid (c < (w2.setCells c 0 (WL (-V))).heap.size) := Lib.hid (by rw [size_setCells]; exact L3.out)
              clear hT hi
              go_wp2_with (refine wpList_store_mid rfl 99 (.tmp 7) (.tmp 79) rfl c 0 (WL (-V)).toArray rfl rfl HT.out.1 HT.out.2.1 HT.out.2.2 ?_)
              go_meet
              exact ⟨A4, O4, R4, L4⟩
          case rest =>
            clear e3 hun
            obtain ⟨hA3, hO3, hR3, hL3⟩ := hcut
            clear hA2 hO2 hR2 hL2
            have HP' := HP
            generalize un x = X at *
            go_wp2_with fail
            refine wp_region_rel 9 (fun w' => AccAt w' b s1 ∧ Only b w w' ∧ Row w' c (wd X) ∧ c < w'.heap.size) (fun _ _ v => v = .agg (WL (s1.z + X)).toArray) (by kernel_rfl) (by kernel_rfl) ⟨hA3.out.drew, hO3.out.drew, hR3.out.drew, hL3.out⟩ ?_
            simp only [List.take_succ_cons, List.take_zero, List.drop_succ_cons, List.drop_zero]
            refine rel_move (v := .pointer (some ⟨b, 0, none⟩)) rfl rfl ?_
            simp only [Act.put, List.setIfInBounds_toArray, List.set_cons_succ, List.set_cons_zero]
            refine rel_move (v := .pointer (some ⟨b, 0, none⟩)) rfl rfl ?_
            simp only [Act.put, List.setIfInBounds_toArray, List.set_cons_succ, List.set_cons_zero]
            refine rel_val (v := .pointer (some ⟨b, 0, none⟩)) rfl (fun w' hw => by go_simp) ?_
            simp only [Act.put, List.setIfInBounds_toArray, List.set_cons_succ, List.set_cons_zero]
            refine rel_val (v := .pointer (some ⟨b, 0, none⟩)) rfl (fun w' hw => by go_simp) ?_
            simp only [Act.put, List.setIfInBounds_toArray, List.set_cons_succ, List.set_cons_zero]
            refine rel_load_row b 0 (WL s1.z) _ rfl rfl (fun w' hw => hw.1.row.range) Try.underlying99 rfl (len138 _) ?_
            simp only [Act.put, List.setIfInBounds_toArray, List.set_cons_succ, List.set_cons_zero]
            refine rel_load_row c 0 (WL X) _ rfl rfl (fun w' hw => hw.2.2.1.range) Try.underlying99 rfl (len138 _) ?_
            simp only [Act.put, List.setIfInBounds_toArray, List.set_cons_succ, List.set_cons_zero]
            refine rel_call (f := 47) (args := #[.agg (WL s1.z).toArray, .agg (WL X).toArray]) rfl (fun w' hw => by go_simp) (fun w' hw => ?_) (fun v hv => ?_)
            · refine (c143 s1.z X w').mono ?_
              rintro y w'' ⟨rfl, hb2⟩
              exact ⟨_, rfl, rfl, hw.1.below hb2 (by have := hw.2.1.size; omega), hw.2.1.below_fresh (hb2.mono hw.2.1.size), hw.2.2.1.below hb2 hw.2.2.2, Nat.lt_of_lt_of_le hw.2.2.2 hb2.size⟩
            rw [hv]
            simp only [Act.put, List.setIfInBounds_toArray, List.set_cons_succ, List.set_cons_zero]
            refine rel_val (v := .pointer (some ⟨b, 0, none⟩)) rfl (fun w' hw => by go_simp) ?_
            simp only [Act.put, List.setIfInBounds_toArray, List.set_cons_succ, List.set_cons_zero]
            refine rel_val (v := .pointer (some ⟨b, 0, none⟩)) rfl (fun w' hw => by go_simp) ?_
            simp only [Act.put, List.setIfInBounds_toArray, List.set_cons_succ, List.set_cons_zero]
            refine rel_nil ?_
            rintro w3 ⟨hA4, hO4, _⟩
            have hT : w3.there b 0 (WL (s1.z + X)).toArray.size := hA4.row.there (by simp [WL_len])
            have hi : (Try.prog.info? 99).map (·.size) = some (WL (s1.z + X)).toArray.size := by rw [size138]; simp [WL_len]
            refine wpList_store_mid rfl 99 (.tmp 88) (.tmp 86) rfl b 0 (WL (s1.z + X)).toArray rfl rfl hT hi (WL_one _) ?_
            have A5 : Hid (AccAt (w3.setCells b 0 (WL (s1.z + X))) b (addS s x)) := Lib.hid (by rw [HP.out]; exact hA4.setRow (s1.z + X))
            have O5 := Lib.hid (hO4.setCells 0 (WL (s1.z + X)))
            clear hA4 hO4 hT hi
            go_wp2
            refine bodyPost_end (v := .tuple #[]) (results_none rfl _ _ _) rfl ⟨rfl, ?_, ?_⟩
            · exact A5.out
            · exact O5.out
theorem c37 (b : Nat) (s : AS) (x : Nat) (w : World) (h : U x) (hs : AccAt w b s) (hb : b < w.heap.size) :
    Calls Try.prog 21 #[.pointer (some ⟨b, 0, none⟩), .float .f64 x] w fun e w' => e = .returned (.tuple #[]) ∧ AccAt w' b (addS s x) ∧ Only b w w' := by
  by_cases hN : isN x = true
  · exact c37n b s x w h hN hs hb
  · by_cases hf : fin x = true
    · exact c37f b s x w h hf hs hb
    · have h1 : rg x = 9218868437227405312 := by
        unfold isN INF at hN; unfold fin INF at hf
        simp only [decide_eq_true_eq] at hN hf; omega
      have h2 := h.lt
      have hx : x = 9218868437227405312 ∨ x = 18442240474082181120 := by unfold rg at h1; omega
      rcases hx with rfl | rfl
      · exact c37ip b s w hs
      · exact c37im b s w hs
end Go.Proofs.Ytedkbjimofiphaa
