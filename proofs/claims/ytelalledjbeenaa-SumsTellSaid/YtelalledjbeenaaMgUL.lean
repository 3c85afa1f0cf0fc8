/- Exact of the reference's. Two. -/
import Derived.Test.YtelalledjbeenaaUK
import Derived.Test.YtelalledjbeenaaMgSumsA
namespace Go.Proofs.Ytelalledjbeenaa
open Go.RowKit Fl

theorem zero110 : Try.zeroCells110 = (List.replicate 140 (Value.int .u32 0) ++ List.replicate 5 (Value.int .i64 0)).toArray := by kernel_rfl
theorem dg_zero (j : Nat) : dg 0 j = 0 := by unfold dg; rw [Nat.zero_div]
theorem sum_new (w : World) : SumAt (w.alloc (.cells Try.zeroCells110 110)) w.heap.size 0 RS.zero := by
  have hu : ∀ j, j < 140 → (w.alloc (.cells Try.zeroCells110 110)).cell? ⟨w.heap.size, j, Option.none⟩ = some (.int .u32 0) := fun j hj => by
    rw [World.cell?_alloc_new w _ 110 j, zero110, List.getElem?_toArray, List.getElem?_append_left (by rw [List.length_replicate]; exact hj), List.getElem?_replicate, if_pos hj]
  have hi : ∀ j, j < 5 → (w.alloc (.cells Try.zeroCells110 110)).cell? ⟨w.heap.size, 140 + j, Option.none⟩ = some (.int .i64 0) := fun j hj => by
    rw [World.cell?_alloc_new w _ 110 (140 + j), zero110, List.getElem?_toArray, List.getElem?_append_right (by rw [List.length_replicate]; omega), List.length_replicate, List.getElem?_replicate, if_pos (by omega)]
  have hf : ∀ j, (w.alloc (.cells Try.zeroCells110 110)).frozen? ⟨w.heap.size, j, Option.none⟩ = false := fun j => by simp [go_sem]
  refine ⟨fun j hj => ⟨?_, hf _⟩, fun j hj => ⟨?_, hf _⟩, ⟨?_, hf _⟩, ⟨?_, hf _⟩, ⟨?_, hf _⟩, ⟨?_, hf _⟩, ⟨?_, hf _⟩⟩
  · rw [show RS.zero.up = 0 from rfl, dg_zero, hu _ (by omega)]; rfl
  · rw [show RS.zero.down = 0 from rfl, dg_zero, hu _ (by omega)]; rfl
  · exact hi 0 (by omega)
  · exact hi 1 (by omega)
  · exact hi 2 (by omega)
  · exact hi 3 (by omega)
  · exact hi 4 (by omega)
theorem OnlyC.Below {b lo hi B : Nat} {w w1 w2 : World} (h : OnlyC b lo hi w1 w2) (hB : B ≤ b) (hs : B ≤ w1.heap.size) (k : Below B w w1) : Below B w w2 := h.only.below hB hs k

set_option maxRecDepth 100000 in
set_option maxHeartbeats 1000000 in
theorem c121 (b o c : Nat) (l : List Nat) (w : World) (h : FL w b o l) (hl : l.length < 4611686018427387904) :
    Calls Try.prog 121 #[.slice (some ⟨b, o, none⟩) l.length c] w fun e w' => RetF (pV (accS l)) e ∧ Below w.heap.size w w' := by
  have H := Lib.hid h
  have hz := (sumR_ok l).small (by rw [sumR_many]; exact hl)
  have HZ := Lib.hid hz
  have A0 : Hid (SumAt (w.alloc (.cells Try.zeroCells110 110)) w.heap.size 0 (sumR (l.take 0))) := Lib.hid (sum_new w)
  have B0 := Lib.hid (show Below w.heap.size w (w.alloc (.cells Try.zeroCells110 110)) from (Below.refl _ _).alloc (Nat.le_refl _) _)
  have S0 := Lib.hid (show w.heap.size < (w.alloc (.cells Try.zeroCells110 110)).heap.size by simp)
  have HL := Lib.hid hl
  clear hz
  go_enter Try.func121, Try.ntmps121
  go_wp2_with fail
  go_loopw [4] (fun i wx => ∃ k : Nat, k ≤ l.length ∧ i = .int .i64 k ∧ Hid (SumAt wx w.heap.size 0 (sumR (l.take k))) ∧ Hid (Below w.heap.size w wx) ∧ Hid (w.heap.size < wx.heap.size)) (fun i _ => l.length - (intOf i).toNat)
  case atStart => exact ⟨0, by omega, rfl, A0, B0, S0⟩
  case round =>
    obtain ⟨k, hk, rfl, hA, hB, hS⟩ := hrel
    by_cases hlt : k < l.length
    · have hki : (k : Int) < (l.length : Int) := by omega
      obtain ⟨x, hx⟩ : ∃ x, l[k]? = some x := ⟨l[k], List.getElem?_eq_getElem hlt⟩
      have HX := Lib.hid hx
      have HLT := Lib.hid hlt
      have HU := Lib.hid (H.out.u k x hx)
      have kc := (H.out.below hB.out).cell k x hx
      clear hx h hlt A0 B0 S0
      go_wp2_with (go_at_call 113; fail)
      refine (c113 w.heap.size 0 _ x _ HU.out hA.out hS.out (by
        have hk := sumR_ok (l.take k)
        have h1 := hk.cold
        have h2 := hk.none
        have h3 := hk.high
        have h4 := hk.low
        have h5 := sumR_many (l.take k)
        rw [List.length_take] at h5
        have := HL.out
        have := HLT.out
        omega)).mono ?_
      rintro e w2 ⟨rfl, ha2, ho2⟩
      have A2 : Hid (SumAt w2 w.heap.size 0 (sumR (l.take (k + 1)))) := Lib.hid (by rw [sumR_take l k x HX.out]; exact ha2)
      have B2 := Lib.hid (ho2.Below (Nat.le_refl _) (Nat.le_of_lt hS.out) hB.out)
      have S2 := Lib.hid (Nat.lt_of_lt_of_le hS.out ho2.only.size)
      clear ha2 ho2 kc
      go_wp2
      go_roundw
      case rel => exact ⟨k + 1, by have := HLT.out; omega, by go_num, A2, B2, S2⟩
      case measure => have := HLT.out; simp [intOf]; omega
    · have hki : ¬ (k : Int) < (l.length : Int) := by omega
      have hkl : k = l.length := by omega
      have hA2 : Hid (SumAt _ w.heap.size 0 (sumR l)) := Lib.hid (by have := hA.out; rw [hkl, List.take_length] at this; exact this)
      clear hlt hkl h A0 B0 S0 hA
      go_wp2_with (go_at_call 115; fail)
      refine (c115 _ _ _ _ hA2.out hS.out HZ.out.1 HZ.out.2).mono ?_
      rintro e w2 ⟨⟨r, rfl, hr⟩, hb2⟩
      have HB := Lib.hid (hB.out.trans (hb2.mono hB.out.size))
      have HR := Lib.hid hr
      clear hb2 hr
      go_wp2
      go_ret
      exact ⟨⟨r, rfl, by rw [← sumR_acc]; exact HR.out⟩, HB.out⟩
end Go.Proofs.Ytelalledjbeenaa

namespace Go.Proofs.Ytelalledjbeenaa
open Go.RowKit Fl

/-- the place of what is lost -/
def lossP (x y s : Nat) : Int := if isN s || isI s then 0 else if zk (pV (lostS x y s)) = 0 then 0 else pV (lostS x y s)
def TwoRet (x y : Nat) (e : Ending) : Prop := ∃ s r : Nat, e = .returned (.tuple #[.float .f64 s, .float .f64 r]) ∧ U s ∧ pl s = opP .add (pl x) (pl y) ∧ U r ∧ pl r = lossP x y s
theorem lost_small (x y s : Nat) : -B2559 < (lostS x y s).z ∧ (lostS x y s).z < B2559 := acc_small [x, y, ng s] (by simp)
set_option maxRecDepth 100000 in
set_option maxHeartbeats 1000000 in
theorem c25 (x y : Nat) (w : World) (hx : U x) (hy : U y) : Calls Try.prog 25 #[.float .f64 x, .float .f64 y] w fun e w' => TwoRet x y e ∧ Below w.heap.size w w' := by
  have hf := run_fop (P := Try.prog) .add rfl 24 x y w
  have HP := Lib.hid (pl_fop .add x y w hx hy)
  have HU := Lib.hid (U_fop .add x y w)
  have HX := Lib.hid (And.intro hx hy)
  have B0 := Lib.hid (Bd (Below.refl w.heap.size w) (fopN .add x y))
  have hsz : (w.drewN (fopN .add x y)).heap.size = w.heap.size := rfl
  have HSZ := Lib.hid hsz
  clear hx hy hsz
  generalize fop .add x y w = s at *
  generalize w.drewN (fopN .add x y) = w0 at *
  have hneg : ∀ (b : Nat) (w : World), (Op.unary .neg (.float .f64 b)).run Try.prog w = .ok (.float .f64 (Op.negFloat .f64 b)) w := fun _ _ => rfl
  cases hN : isN s
  · cases hI : isI s
    · have HL := Lib.hid (And.intro hN hI)
      go_enter Try.func25, Try.ntmps25
      go_wp2_with (first | (go_at_call 129; refine (c129 s _ HU.out).mono ?_; rintro e w' ⟨rfl, rfl⟩; rw [hN]) | (go_at_call 130; refine (c130 s _ HU.out).mono ?_; rintro e w' ⟨rfl, rfl⟩; rw [hI]) | (go_at_call 35; fail))
      refine (c35 _).mono ?_
      rintro e w1 ⟨rfl, ha, hb1, hs1⟩
      obtain ⟨A1, B1⟩ := And.intro (Lib.hid ha) (Lib.hid (B0.out.trans (hb1.mono (by rw [HSZ.out]; exact Nat.le_refl _))))
      have S1 := Lib.hid hs1
      have L1 := Lib.hid (show w.heap.size ≤ w0.heap.size by rw [HSZ.out]; exact Nat.le_refl _)
      clear ha hb1 hs1 hN hI hf B0
      generalize w0.heap.size = c at *
      go_wp2_with (go_at_call 37; fail)
      refine (c37 _ _ x _ HX.out.1 A1.out S1.out).mono ?_
      rintro e w2 ⟨rfl, ha, ho⟩
      have A2 := Lib.hid ha
      have B2 := Lib.hid (ho.below L1.out (by have := B1.out.size; exact this) B1.out)
      have S2 := Lib.hid (Nat.lt_of_lt_of_le S1.out ho.size)
      clear ha ho A1 B1 S1
      go_wp2_with (go_at_call 37; fail)
      refine (c37 _ _ y _ HX.out.2 A2.out S2.out).mono ?_
      rintro e w3 ⟨rfl, ha, ho⟩
      have A3 := Lib.hid ha
      have B3 := Lib.hid (ho.below L1.out (by have := B2.out.size; exact this) B2.out)
      have S3 := Lib.hid (Nat.lt_of_lt_of_le S2.out ho.size)
      clear ha ho A2 B2 S2
      go_wp2_with (go_at_call 37; fail)
      refine (c37 _ _ (ng s) _ (U_ng HU.out) A3.out S3.out).mono ?_
      rintro e w4 ⟨rfl, ha, ho⟩
      have A4 : Hid (AccAt w4 c (lostS x y s)) := Lib.hid ha
      have B4 := Lib.hid (ho.below L1.out (by have := B3.out.size; exact this) B3.out)
      have S4 := Lib.hid (Nat.lt_of_lt_of_le S3.out ho.size)
      clear ha ho A3 B3 S3
      go_wp2_with (go_at_call 39; fail)
      refine (c39 _ _ _ A4.out S4.out (lost_small x y s).1 (lost_small x y s).2).mono ?_
      rintro e w5 ⟨⟨r, rfl, hu, hr⟩, hb⟩
      have B5 := Lib.hid (B4.out.trans (hb.mono B4.out.size))
      have HR := Lib.hid hr
      have HUR := Lib.hid hu
      have e0 := f_eq r 0 hu (by unfold U; decide)
      rw [hr, show pl 0 = 0 by decide] at e0
      clear hb A4 B4 S4 hu hr
      have hl : Hid (lossP x y s = if zk (pV (lostS x y s)) = 0 then 0 else pV (lostS x y s)) := Lib.hid (by unfold lossP; rw [HL.out.1, HL.out.2, Bool.or_false, if_neg Bool.false_ne_true])
      generalize pV (lostS x y s) = P at *
      cases hz : feqP P 0
      · rw [hz] at e0
        have E : Hid (pl r = lossP x y s) := Lib.hid (by
          rw [hl.out, HR.out]
          unfold feqP at hz
          by_cases h0 : zk P = 0
          · rw [if_pos h0]
            rw [decide_eq_true (show (0 : Int) ≠ 9223372036854775807 by decide), decide_eq_true (show zk P = zk 0 by rw [h0]; rfl)] at hz
            have hP : P = 9223372036854775807 := by simpa using hz
            rw [hP] at h0; exact absurd h0 (by decide)
          · rw [if_neg h0])
        clear hz
        go_wp2
        go_ret2
        exact ⟨⟨s, r, rfl, HU.out, HP.out, HUR.out, E.out⟩, B5.out⟩
      · rw [hz] at e0
        have E : Hid (pl 0 = lossP x y s) := Lib.hid (by
          rw [hl.out]
          unfold feqP at hz
          have h0 : zk P = 0 := by
            simp only [Bool.and_eq_true, decide_eq_true_eq] at hz
            rw [hz.2]; rfl
          rw [if_pos h0]; decide)
        clear hz
        go_wp2
        go_ret2
        exact ⟨⟨s, 0, rfl, HU.out, HP.out, by unfold U; decide, E.out⟩, B5.out⟩
    · have E : Hid (pl 0 = lossP x y s) := Lib.hid (by unfold lossP; rw [hN, hI, Bool.false_or, if_pos rfl]; decide)
      go_enter Try.func25, Try.ntmps25
      go_wp2_with (first | (go_at_call 129; refine (c129 s _ HU.out).mono ?_; rintro e w' ⟨rfl, rfl⟩; rw [hN]) | (go_at_call 130; refine (c130 s _ HU.out).mono ?_; rintro e w' ⟨rfl, rfl⟩; rw [hI]) | (go_at_call 35; fail))
      go_ret2
      exact ⟨⟨s, 0, rfl, HU.out, HP.out, by unfold U; decide, E.out⟩, B0.out⟩
  · have E : Hid (pl 0 = lossP x y s) := Lib.hid (by unfold lossP; rw [hN, Bool.true_or, if_pos rfl]; decide)
    go_enter Try.func25, Try.ntmps25
    go_wp2_with (first | (go_at_call 129; refine (c129 s _ HU.out).mono ?_; rintro e w' ⟨rfl, rfl⟩; rw [hN]) | (go_at_call 35; fail))
    go_ret2
    exact ⟨⟨s, 0, rfl, HU.out, HP.out, by unfold U; decide, E.out⟩, B0.out⟩
end Go.Proofs.Ytelalledjbeenaa
