/- Two. Exact of no numbers. Held: the closure. Held. -/
import Derived.Test.YtelalledjbeenaaMgSumsA
namespace Go.Proofs.Ytelalledjbeenaa
open Go.RowKit Fl

/-- the place of what is lost -/
def lossP (x y s : Nat) : Int := if isN s || isI s then 0 else if zk (pV (lostS x y s)) = 0 then 0 else pV (lostS x y s)
def TwoRet (x y : Nat) (e : Ending) : Prop := ∃ s r : Nat, e = .returned (.tuple #[.float .f64 s, .float .f64 r]) ∧ U s ∧ pl s = opP .add (pl x) (pl y) ∧ U r ∧ pl r = lossP x y s
theorem lost_small (x y s : Nat) : -B2559 < (lostS x y s).z ∧ (lostS x y s).z < B2559 := acc_small [x, y, ng s] (by simp)
set_option maxRecDepth 100000 in
set_option maxHeartbeats 1000000 in
theorem c25 (x y : Nat) (w : World) (hx : U x) (hy : U y) : Calls Try.prog 25 #[.float .f64 x, .float .f64 y] w fun e w' => TwoRet x y e ∧ Below w.heap.size w w' := by
  have hf := run_fop (P := Try.prog) .add rfl 24 x y w
  have HP := Lib.hid (pl_fop .add x y w hx hy)
  have HU := Lib.hid (U_fop .add x y w)
  have HX := Lib.hid (And.intro hx hy)
  have B0 := Lib.hid (Bd (Below.refl w.heap.size w) (fopN .add x y))
  have hsz : (w.drewN (fopN .add x y)).heap.size = w.heap.size := rfl
  have HSZ := Lib.hid hsz
  clear hx hy hsz
  generalize fop .add x y w = s at *
  generalize w.drewN (fopN .add x y) = w0 at *
  have hneg : ∀ (b : Nat) (w : World), (Op.unary .neg (.float .f64 b)).run Try.prog w = .ok (.float .f64 (Op.negFloat .f64 b)) w := fun _ _ => rfl
  cases hN : isN s
  · cases hI : isI s
    · have HL := Lib.hid (And.intro hN hI)
      go_enter Try.func25, Try.ntmps25
      go_wp2_with (first | (go_at_call 129; refine (c129 s _ HU.out).mono ?_; rintro e w' ⟨rfl, rfl⟩; rw [hN]) | (go_at_call 130; refine (c130 s _ HU.out).mono ?_; rintro e w' ⟨rfl, rfl⟩; rw [hI]) | (go_at_call 35; fail))
      refine (c35 _).mono ?_
      rintro e w1 ⟨rfl, ha, hb1, hs1⟩
      obtain ⟨A1, B1⟩ := And.intro (Lib.hid ha) (Lib.hid (B0.out.trans (hb1.mono (by rw [HSZ.out]; exact Nat.le_refl _))))
      have S1 := Lib.hid hs1
      have L1 := Lib.hid (show w.heap.size ≤ w0.heap.size by rw [HSZ.out]; exact Nat.le_refl _)
      clear ha hb1 hs1 hN hI hf B0
      generalize w0.heap.size = c at *
      go_wp2_with (go_at_call 37; fail)
      refine (c37 _ _ x _ HX.out.1 A1.out S1.out).mono ?_
      rintro e w2 ⟨rfl, ha, ho⟩
      have A2 := Lib.hid ha
      have B2 := Lib.hid (ho.below L1.out (by have := B1.out.size; exact this) B1.out)
      have S2 := Lib.hid (Nat.lt_of_lt_of_le S1.out ho.size)
      clear ha ho A1 B1 S1
      go_wp2_with (go_at_call 37; fail)
      refine (c37 _ _ y _ HX.out.2 A2.out S2.out).mono ?_
      rintro e w3 ⟨rfl, ha, ho⟩
      have A3 := Lib.hid ha
      have B3 := Lib.hid (ho.below L1.out (by have := B2.out.size; exact this) B2.out)
      have S3 := Lib.hid (Nat.lt_of_lt_of_le S2.out ho.size)
      clear ha ho A2 B2 S2
      go_wp2_with (go_at_call 37; fail)
      refine (c37 _ _ (ng s) _ (U_ng HU.out) A3.out S3.out).mono ?_
      rintro e w4 ⟨rfl, ha, ho⟩
      have A4 : Hid (AccAt w4 c (lostS x y s)) := Lib.hid ha
      have B4 := Lib.hid (ho.below L1.out (by have := B3.out.size; exact this) B3.out)
      have S4 := Lib.hid (Nat.lt_of_lt_of_le S3.out ho.size)
      clear ha ho A3 B3 S3
      go_wp2_with (go_at_call 39; fail)
      refine (c39 _ _ _ A4.out S4.out (lost_small x y s).1 (lost_small x y s).2).mono ?_
      rintro e w5 ⟨⟨r, rfl, hu, hr⟩, hb⟩
      have B5 := Lib.hid (B4.out.trans (hb.mono B4.out.size))
      have HR := Lib.hid hr
      have HUR := Lib.hid hu
      have e0 := f_eq r 0 hu (by unfold U; decide)
      rw [hr, show pl 0 = 0 by decide] at e0
      clear hb A4 B4 S4 hu hr
      have hl : Hid (lossP x y s = if zk (pV (lostS x y s)) = 0 then 0 else pV (lostS x y s)) := Lib.hid (by unfold lossP; rw [HL.out.1, HL.out.2, Bool.or_false, if_neg Bool.false_ne_true])
      generalize pV (lostS x y s) = P at *
      cases hz : feqP P 0
      · rw [hz] at e0
        have E : Hid (pl r = lossP x y s) := Lib.hid (by
          rw [hl.out, HR.out]
          unfold feqP at hz
          by_cases h0 : zk P = 0
          · rw [if_pos h0]
            rw [decide_eq_true (show (0 : Int) ≠ 9223372036854775807 by decide), decide_eq_true (show zk P = zk 0 by rw [h0]; rfl)] at hz
            have hP : P = 9223372036854775807 := by simpa using hz
            rw [hP] at h0; exact absurd h0 (by decide)
          · rw [if_neg h0])
        clear hz
        go_wp2
        go_ret2
        exact ⟨⟨s, r, rfl, HU.out, HP.out, HUR.out, E.out⟩, B5.out⟩
      · rw [hz] at e0
        have E : Hid (pl 0 = lossP x y s) := Lib.hid (by
          rw [hl.out]
          unfold feqP at hz
          have h0 : zk P = 0 := by
            simp only [Bool.and_eq_true, decide_eq_true_eq] at hz
            rw [hz.2]; rfl
          rw [if_pos h0]; decide)
        clear hz
        go_wp2
        go_ret2
        exact ⟨⟨s, 0, rfl, HU.out, HP.out, by unfold U; decide, E.out⟩, B5.out⟩
    · have E : Hid (pl 0 = lossP x y s) := Lib.hid (by unfold lossP; rw [hN, hI, Bool.false_or, if_pos rfl]; decide)
      go_enter Try.func25, Try.ntmps25
      go_wp2_with (first | (go_at_call 129; refine (c129 s _ HU.out).mono ?_; rintro e w' ⟨rfl, rfl⟩; rw [hN]) | (go_at_call 130; refine (c130 s _ HU.out).mono ?_; rintro e w' ⟨rfl, rfl⟩; rw [hI]) | (go_at_call 35; fail))
      go_ret2
      exact ⟨⟨s, 0, rfl, HU.out, HP.out, by unfold U; decide, E.out⟩, B0.out⟩
  · have E : Hid (pl 0 = lossP x y s) := Lib.hid (by unfold lossP; rw [hN, Bool.true_or, if_pos rfl]; decide)
    go_enter Try.func25, Try.ntmps25
    go_wp2_with (first | (go_at_call 129; refine (c129 s _ HU.out).mono ?_; rintro e w' ⟨rfl, rfl⟩; rw [hN]) | (go_at_call 35; fail))
    go_ret2
    exact ⟨⟨s, 0, rfl, HU.out, HP.out, by unfold U; decide, E.out⟩, B0.out⟩
end Go.Proofs.Ytelalledjbeenaa

namespace Go.Proofs.Ytelalledjbeenaa
open Go.RowKit Fl

set_option maxRecDepth 100000 in
set_option maxHeartbeats 1000000 in
theorem c23z (A : Option Addr) (c : Nat) (w : World) : Calls Try.prog 23 #[.slice A 0 c] w fun e w' => RetF (pV (accS [])) e ∧ Below w.heap.size w w' := by
  have HZ := Lib.hid (acc_small [] (by simp))
  go_enter Try.func23, Try.ntmps23
  go_wp2_with (go_at_call 35; fail)
  refine (c35 _).mono ?_
  rintro e w1 ⟨rfl, ha, hb1, hs1⟩
  have A0 : Hid (AccAt w1 w.heap.size (accS [])) := Lib.hid ha
  have B0 := Lib.hid hb1
  have S0 := Lib.hid hs1
  clear ha hb1 hs1
  go_wp2_with fail
  go_loopw [9] (fun i wx => i = .int .i64 0 ∧ Hid (AccAt wx w.heap.size (accS [])) ∧ Hid (Below w.heap.size w wx) ∧ Hid (w.heap.size < wx.heap.size)) (fun i _ => 1 - (intOf i).toNat)
  case atStart => exact ⟨rfl, A0, B0, S0⟩
  case round =>
    obtain ⟨rfl, hA, hB, hS⟩ := hrel
    clear A0 B0 S0
    go_wp2_with (go_at_call 39; fail)
    refine (c39 _ _ _ hA.out hS.out HZ.out.1 HZ.out.2).mono ?_
    rintro e w2 ⟨⟨r, rfl, hr⟩, hb2⟩
    have HB := Lib.hid (hB.out.trans (hb2.mono hB.out.size))
    have HR := Lib.hid hr
    clear hb2 hr
    go_wp2
    go_ret
    exact ⟨⟨r, rfl, HR.out⟩, HB.out⟩
end Go.Proofs.Ytelalledjbeenaa

namespace Go.Proofs.Ytelalledjbeenaa
open Go.RowKit Fl

/-- the place without its sign -/
def absP (p : Int) : Int := if p = 9223372036854775807 then p else if p < 0 then -p - 1 else p
theorem pl_rg (x : Nat) : pl (rg x) = absP (pl x) := by
  have h1 := rg_rg x
  have h2 := sg_rg x
  by_cases hn : isN x = true
  · have : isN (rg x) = true := by unfold isN at *; rw [h1]; exact hn
    rw [pl_nan hn, pl_nan this]; rfl
  · have hn := Bool.eq_false_iff.2 hn
    have h3 : isN (rg x) = false := by unfold isN at *; rw [h1]; exact hn
    rw [pl_pos h3 h2, h1]
    have hr : (rg x : Int) ≤ 9218868437227405312 := by unfold isN INF at hn; have := of_decide_eq_false hn; omega
    cases hs : sg x
    · rw [pl_pos hn hs]; unfold absP; rw [if_neg (by omega), if_neg (by omega)]
    · rw [pl_neg hn hs]; unfold absP; rw [if_neg (by omega), if_pos (by omega)]; omega
/-- a step of Held: sum and rest -/
def heldT (s x : Int) : Int := opP .add s x
def heldC (s c x : Int) : Int :=
  if fleP (absP x) (absP s) then opP .add c (opP .add (opP .sub s (heldT s x)) x) else opP .add c (opP .add (opP .sub x (heldT s x)) s)

set_option maxRecDepth 100000 in
set_option maxHeartbeats 1000000 in
theorem c132 (p q s c x : Nat) (w : World) (hx : U x) (hs : U s) (hc : U c) (hpq : p ≠ q)
    (k1 : w.cell? ⟨p, 0, none⟩ = some (.float .f64 s)) (k2 : w.cell? ⟨q, 0, none⟩ = some (.float .f64 c)) (f1 : w.frozen? ⟨p, 0, none⟩ = false) (f2 : w.frozen? ⟨q, 0, none⟩ = false) :
    Calls Try.prog 132 #[.float .f64 x, .pointer (some ⟨p, 0, none⟩), .pointer (some ⟨q, 0, none⟩)] w fun e w' => e = .returned (.tuple #[]) ∧
      ∃ s' c' n, U s' ∧ U c' ∧ pl s' = heldT (pl s) (pl x) ∧ pl c' = heldC (pl s) (pl c) (pl x) ∧ w' = (((w.drewN n).setCell ⟨q, 0, none⟩ (.float .f64 c')).setCell ⟨p, 0, none⟩ (.float .f64 s')) := by
  have hf := fun x y w => run_fop (P := Try.prog) .add rfl 24 x y w
  have hg := fun x y w => run_fop (P := Try.prog) .sub rfl 24 x y w
  have H := Lib.hid (And.intro hx (And.intro hs hc))
  have e1 := f_ge (rg s) (rg x) (U_rg s) (U_rg x)
  rw [pl_rg, pl_rg] at e1
  have f1' : ∀ n, (w.drewN n).frozen? ⟨p, 0, none⟩ = false := fun _ => f1
  have f2' : ∀ n, (w.drewN n).frozen? ⟨q, 0, none⟩ = false := fun _ => f2
  have k1' : ∀ n, (w.drewN n).cell? ⟨p, 0, none⟩ = some (.float .f64 s) := fun _ => k1
  have k2' : ∀ n, (w.drewN n).cell? ⟨q, 0, none⟩ = some (.float .f64 c) := fun _ => k2
  have st2 : ∀ (v n : Nat), (store ⟨q, 0, none⟩ (.float .f64 v)).run Try.prog (w.drewN n) = .ok () ((w.drewN n).setCell ⟨q, 0, none⟩ (.float .f64 v)) := fun v n => by
    rw [run_store Try.prog _ _ _ _ rfl, k2' n, f2' n]; rfl
  have st1 : ∀ (v n u : Nat), (store ⟨p, 0, none⟩ (.float .f64 v)).run Try.prog ((w.drewN n).setCell ⟨q, 0, none⟩ (.float .f64 u)) = .ok () (((w.drewN n).setCell ⟨q, 0, none⟩ (.float .f64 u)).setCell ⟨p, 0, none⟩ (.float .f64 v)) := fun v n u => by
    rw [run_store Try.prog _ _ _ _ rfl, World.cell?_setCell_other _ _ _ _ (by intro h; cases h; exact hpq rfl), World.frozen?_setCell, k1' n, f1' n]; rfl
  clear hx hs hc
  cases hcmp : fleP (absP (pl x)) (absP (pl s))
  · rw [hcmp] at e1
    go_enter Try.func132, Try.ntmps132
    go_wp2_with (go_at_call 133; first | (refine (c133 s _ H.out.2.1).mono ?_; rintro e w' ⟨rfl, rfl⟩) | (refine (c133 x _ H.out.1).mono ?_; rintro e w' ⟨rfl, rfl⟩))
    refine bodyPost_end (v := .tuple #[]) (results_none rfl _ _ _) rfl ⟨rfl, _, _, _, U_fop _ _ _ _, U_fop _ _ _ _, ?_, ?_, rfl⟩
    · rw [pl_fop .add s x _ H.out.2.1 H.out.1]; rfl
    · rw [pl_fop .add c _ _ H.out.2.2 (U_fop _ _ _ _), pl_fop .add _ _ _ (U_fop _ _ _ _) H.out.2.1, pl_fop .sub _ _ _ H.out.1 (U_fop _ _ _ _), pl_fop .add s x _ H.out.2.1 H.out.1]
      unfold heldC heldT
      rw [hcmp]; rfl
  · rw [hcmp] at e1
    go_enter Try.func132, Try.ntmps132
    go_wp2_with (go_at_call 133; first | (refine (c133 s _ H.out.2.1).mono ?_; rintro e w' ⟨rfl, rfl⟩) | (refine (c133 x _ H.out.1).mono ?_; rintro e w' ⟨rfl, rfl⟩))
    refine bodyPost_end (v := .tuple #[]) (results_none rfl _ _ _) rfl ⟨rfl, _, _, _, U_fop _ _ _ _, U_fop _ _ _ _, ?_, ?_, rfl⟩
    · rw [pl_fop .add s x _ H.out.2.1 H.out.1]; rfl
    · rw [pl_fop .add c _ _ H.out.2.2 (U_fop _ _ _ _), pl_fop .add _ _ _ (U_fop _ _ _ _) H.out.1, pl_fop .sub _ _ _ H.out.2.1 (U_fop _ _ _ _), pl_fop .add s x _ H.out.2.1 H.out.1]
      unfold heldC heldT
      rw [hcmp]; rfl
end Go.Proofs.Ytelalledjbeenaa

namespace Go.Proofs.Ytelalledjbeenaa
open Go.RowKit Fl

def heldStep (a : Int × Int) (x : Nat) : Int × Int := (heldT a.1 (pl x), heldC a.1 a.2 (pl x))
def heldF (l : List Nat) : Int × Int := l.foldl heldStep (-1, 0)
/-- the place of Held's sum: an infinity, no number or nothing lost: as it is -/
def heldP (l : List Nat) : Int :=
  let a := heldF l
  if a.1 = 9223372036854775807 ∨ absP a.1 = 9218868437227405312 ∨ feqP a.2 0 = true then a.1 else opP .add a.1 a.2
theorem heldF_take (l : List Nat) (k x : Nat) (h : l[k]? = some x) : heldF (l.take (k + 1)) = heldStep (heldF (l.take k)) x := by
  unfold heldF
  rw [List.take_add_one, h, List.foldl_append]; rfl
end Go.Proofs.Ytelalledjbeenaa
