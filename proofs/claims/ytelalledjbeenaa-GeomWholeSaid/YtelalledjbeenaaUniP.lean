/- Plain laws of rectangles: whichever is told first; of one and itself. -/
import Derived.Test.YtelalledjbeenaaMgWz
import Derived.Test.YtelalledjbeenaaGeoF
namespace Go.Proofs.Ytelalledjbeenaa
open Go.RowKit Fl

theorem minP_comm (p q : Int) : minP p q = minP q p := by unfold minP; omega
theorem maxP_comm (p q : Int) : maxP p q = maxP q p := by unfold maxP; omega
theorem minP_self (p : Int) : minP p p = p := by unfold minP; omega
theorem maxP_self (p : Int) : maxP p p = p := by unfold maxP; omega
theorem meetB_comm (A0 A1 A2 A3 B0 B1 B2 B3 : Int) : meetB B0 B1 B2 B3 A0 A1 A2 A3 = meetB A0 A1 A2 A3 B0 B1 B2 B3 := by
  unfold meetB
  rw [maxP_comm (loP B0 B2), minP_comm (hiP B0 B2), maxP_comm (loP B1 B3), minP_comm (hiP B1 B3)]
theorem MeetR_comm (A0 A1 A2 A3 B0 B1 B2 B3 : Int) (e : Ending) (h : MeetR B0 B1 B2 B3 A0 A1 A2 A3 e) : MeetR A0 A1 A2 A3 B0 B1 B2 B3 e := by
  unfold MeetR at *
  rw [meetB_comm, maxP_comm (loP B0 B2), minP_comm (hiP B0 B2), maxP_comm (loP B1 B3), minP_comm (hiP B1 B3)] at h
  exact h
/-- a finite number and an infinite one -/
theorem add_pinf (a : Nat) (ha : U a) (fa : fin a = true) : opP .add (pl a) (INF : Int) = (INF : Int) := by
  have e : (INF : Int) = pl INF := by decide
  unfold opP
  rw [e, atW_pl a ha (fin_not_nan fa), atW_pl INF (by unfold U INF; decide) (by decide)]
  have : floatBits .add .f64 a INF = some INF := by
    show Ieee.double.add a INF = some INF
    obtain ⟨m, i, ea, _⟩ := read_fin a ha fa
    unfold Ieee.Format.add
    rw [ea, read_inf INF (by unfold INF; decide) (by decide), show sg INF = false by decide]
    rfl
  rw [this]
theorem fin_pl {x : Nat} (h : fin x = true) : pl x = (if sg x then -(rg x : Int) - 1 else (rg x : Int)) ∧ rg x < INF := by
  refine ⟨?_, fin_true h⟩
  have hn := fin_not_nan h
  cases hs : sg x
  · rw [pl_pos hn hs]; rfl
  · rw [pl_neg hn hs]; rfl
/-- a number and what is not below nought -/
theorem add_up (a : Nat) (ha : U a) (fa : fin a = true) (d : Int) (hd : 0 ≤ d) (hr : rnd d.natAbs < INF) : pl a ≤ opP .add (pl a) (pl (wz d false)) ∧ opP .add (pl a) (pl (wz d false)) ≠ 9223372036854775807 := by
  have hs : sg (wz d false) = false := by rw [sg_wz, decide_eq_false (by omega), Bool.and_false]; rfl
  have hu : un (wz d false) = (val 52 (rnd d.natAbs) : Int) := by rw [un_wzr]; unfold ru; rw [if_neg (by omega)]
  rw [opP_add a _ ha (U_wz _ _) fa (fin_wzr _ hr), hs, Bool.and_false, hu, pl_wz]
  generalize val 52 (rnd d.natAbs) = e
  obtain ⟨hp, hl⟩ := fin_pl fa
  rw [hp]
  have hun : un a = if sg a then -(val 52 (rg a) : Int) else (val 52 (rg a) : Int) := rfl
  have hv := rnd_val (rg a) (by omega)
  have hle := rnd_le (un a + (e : Int)).natAbs
  have hI : (INF : Int) = 9218868437227405312 := rfl
  cases hsg : sg a
  · rw [hsg, if_neg Bool.false_ne_true] at hun
    rw [hun] at hle ⊢
    rw [if_neg Bool.false_ne_true, if_neg (by omega), if_neg (by simp)]
    have := rnd_mono (show val 52 (rg a) ≤ ((val 52 (rg a) : Int) + (e : Int)).natAbs by omega)
    omega
  · rw [hsg, if_pos rfl] at hun
    rw [hun] at hle ⊢
    rw [if_pos rfl]
    by_cases hz : -(val 52 (rg a) : Int) + (e : Int) < 0
    · rw [if_pos hz]
      have := rnd_mono (show (-(val 52 (rg a) : Int) + (e : Int)).natAbs ≤ val 52 (rg a) by omega)
      omega
    · rw [if_neg hz, if_neg (by simp)]
      omega
theorem val_le {x y : Nat} (h : x ≤ y) : val 52 x ≤ val 52 y := by
  by_cases e : x = y
  · rw [e]; exact Nat.le_refl _
  · exact Nat.le_of_lt (val_lt 52 x y (by omega))
/-- the left edge of what reaches from l to r is l -/
theorem back_lo (l r : Nat) (hl : U l) (hr : U r) (fl : fin l = true) (fr : fin r = true) (h : pl l ≤ pl r) : loP (pl l) (opP .sub (pl r) (pl l)) = pl l := by
  unfold loP
  have e := opP_sub r l hr hl fr fl
  obtain ⟨pl1, l1⟩ := fin_pl fl
  obtain ⟨pr1, r1⟩ := fin_pl fr
  have ul : un l = if sg l then -(val 52 (rg l) : Int) else (val 52 (rg l) : Int) := rfl
  have ur : un r = if sg r then -(val 52 (rg r) : Int) else (val 52 (rg r) : Int) := rfl
  have mono : ∀ x y : Nat, x ≤ y → val 52 x ≤ val 52 y := fun x y h => val_le h
  have hz : ∀ x : Nat, val 52 x = 0 → x = 0 := fun x h => val_inj 52 x 0 (by rw [h, val_zero])
  have hd : 0 ≤ un r - un l := by
    rw [ul, ur]
    cases hs : sg l <;> cases ht : sg r <;> simp only [hs, ht, if_true, if_false, Bool.false_eq_true] at pl1 pr1 ⊢
    · have := mono (rg l) (rg r) (by omega); omega
    · omega
    · omega
    · have := mono (rg r) (rg l) (by omega); omega
  have hc : (decide (un r - un l = 0) && (sg r && !sg l)) = false := by
    cases hs : sg l <;> cases ht : sg r <;> simp only [hs, ht, if_true, if_false, Bool.false_eq_true, Bool.and_false, Bool.false_and, Bool.and_true, Bool.true_and, Bool.not_true, Bool.not_false] at pl1 pr1 ⊢
    omega
  have e2 : pl (wz (un r - un l) (sg r && !sg l)) = pl (wz (un r - un l) false) := by
    unfold wz
    rw [hc, Bool.and_false]
  rw [e, e2]
  by_cases hf : rnd (un r - un l).natAbs < INF
  · obtain ⟨h1, h2⟩ := add_up l hl fl (un r - un l) hd hf
    unfold minP
    have hpn : pl l ≠ 9223372036854775807 := by
      have := isN_iff_pl l
      rw [fin_not_nan fl] at this
      exact of_decide_eq_false this.symm
    rw [if_neg (by simp [hpn, h2]), if_neg (by omega)]
  · have hi : rnd (un r - un l).natAbs = INF := by have := rnd_le (un r - un l).natAbs; omega
    have e3 : pl (wz (un r - un l) false) = (INF : Int) := by rw [pl_wz, if_neg (by omega), if_neg (by simp), hi]
    rw [e3, add_pinf l hl fl]
    have hI : (INF : Int) = 9218868437227405312 := rfl
    unfold minP
    have hpn : pl l ≠ 9223372036854775807 ∧ pl l ≤ INF := by
      rw [pl1]; unfold INF at *; cases sg l <;> simp <;> omega
    rw [if_neg (by simp [hpn.1, hI]), if_neg (by omega)]
theorem lo_hi (x w : Int) (h : loP x w ≠ 9223372036854775807) : loP x w ≤ hiP x w := by
  unfold loP hiP minP maxP at *
  omega
theorem uni_one {A W : Int} (l r : Nat) (hl : RV l (loP A W)) (hr : RV r (hiP A W)) (fl : fin l = true) (fr : fin r = true) :
    loP (minP (loP A W) (loP A W)) (opP .sub (maxP (hiP A W) (hiP A W)) (minP (loP A W) (loP A W))) = loP A W := by
  rw [minP_self, maxP_self]
  have hn : loP A W ≠ 9223372036854775807 := by
    rw [← hl.2]
    have := isN_iff_pl l
    rw [fin_not_nan fl] at this
    exact of_decide_eq_false this.symm
  have h := lo_hi A W hn
  rw [← hl.2, ← hr.2] at h
  have := back_lo l r hl.1 hr.1 fl fr h
  rwa [hl.2, hr.2] at this
end Go.Proofs.Ytelalledjbeenaa
