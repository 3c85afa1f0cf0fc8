/- lent and kept. The walk of SumsTell. -/
import Derived.Test.YtelalledjbeenaaUN
import Derived.Test.YtelalledjbeenaaMgSumL
import Derived.Laws.CopyOwn
namespace Go.Proofs.Ytelalledjbeenaa
open Go.RowKit Fl

/-- the two marks behind a lent list -/
def MK77 : Nat := 4635118810238550016
def MK78 : Nat := 4635189178982727680
theorem OwnF.heap {w : World} {B g n : Nat} {m : List Nat} (h : OwnF w B g n m) (hn : 0 < n) : w.heap[g]? = some (.cells (m.map (Value.float .f64)).toArray 24 (0, 0)) ∧ B ≤ g ∧ n ≤ maxLen ∧ m.length = n := by
  obtain ⟨h1, h2⟩ := h
  rw [List.length_map, Nat.mul_one] at h1
  rcases h2 with ⟨_, h2⟩ | ⟨g', cap, cur, hv, hb, hg, h3, h4, h5, h6⟩
  · omega
  · injection hv with a1 a2 a3
    injection a1 with a1
    injection a1 with a1
    subst a1
    subst a3
    rw [Nat.mul_one] at h5 h6
    have : cur = (m.map (Value.float .f64)).toArray := by
      rw [← h6, List.take_of_length_le (by rw [Array.length_toList]; omega)]
    rw [← this]
    exact ⟨hg, hb, h4, h1⟩
theorem OwnF.of {w : World} {B g n : Nat} {m : List Nat} (hg : w.heap[g]? = some (.cells (m.map (Value.float .f64)).toArray 24 (0, 0))) (hb : B ≤ g) (hm : n ≤ maxLen) (hl : m.length = n) : OwnF w B g n m :=
  ⟨by rw [List.length_map, hl, Nat.mul_one], .inr ⟨g, n, _, rfl, hb, hg, Nat.le_refl _, hm, by rw [List.size_toArray, List.length_map, hl, Nat.mul_one], by rw [Nat.mul_one, List.take_of_length_le (by simp; omega)]⟩⟩
theorem lent_splice (l : List Nat) : splice ((List.replicate (l.length + 2) 0).map (Value.float .f64)) 0 (l.map (Value.float .f64)) = (l ++ [0, 0]).map (Value.float .f64) := by
  unfold splice
  rw [List.take_zero, List.nil_append, Nat.zero_add, List.length_map, ← List.map_drop, List.drop_replicate, show l.length + 2 - l.length = 2 by omega, List.map_append]
  rfl
set_option maxRecDepth 100000 in
set_option maxHeartbeats 1000000 in
theorem c116 (A : Option Addr) (c : Nat) (l : List Nat) (w : World) (h : FS w A l) (hl : l.length * 8 ≤ 140737488351232) :
    Calls Try.prog 116 #[.slice A l.length c] w fun e w' => e = .returned (.slice (some ⟨w.heap.size, 0, none⟩) l.length (l.length + 2)) ∧ OwnF w' w.heap.size w.heap.size (l.length + 2) (l ++ [MK77, MK78]) ∧ Below w.heap.size w w' := by
  obtain ⟨i0, hi, hz0, hz1, hz2⟩ := info_parts info24
  have H := Lib.hid h
  have HL := Lib.hid hl
  have HI := Lib.hid (And.intro hi (And.intro hz0 (And.intro hz1 hz2)))
  have n1 : (l.length : Int) ≤ 17592186044416 := by omega
  clear h hi hz0 hz1 hz2
  go_enter Try.func116, Try.ntmps116
  go_upto_region 2 with (at_make; refine wpList_make_full _ rfl _ _ 22 rfl w.heap.size 24 i0 (.float .f64 0) 1 Try.underlying22 HI.out.1 HI.out.2.1 HI.out.2.2.1 .i64 .i64 _ _ (l.length + 2) rfl rfl (by push_cast; rfl) (by push_cast; rfl) (by rw [HI.out.2.2.2]; have := HL.out; omega) (by unfold maxLen; have := HL.out; omega) (Nat.le_refl _) ?_; intro w3 hown hgrow)
  have O0 : OwnF w3 w.heap.size w.heap.size (l.length + 2) (List.replicate (l.length + 2) 0) := by
    unfold OwnF; rw [List.map_replicate]; rw [show (Value.float FloatKind.f64 0).cells = #[.float .f64 0] from rfl, made_one] at hown; exact hown
  have B3 := Lib.hid ((Below.refl w.heap.size w).grown hgrow (Nat.le_refl _) (fun k hk => by cases hk))
  have HG := Lib.hid (O0.heap (by omega))
  have HF := Lib.hid (H.out.below B3.out)
  clear hown hgrow O0 HI
  have HCP : Hid (0 < (l.map (Value.float .f64)).length → (some ⟨w.heap.size, 0, none⟩ : Option Addr) = some ⟨w.heap.size, 0, none⟩ ∧ ∃ ad, A = some ad ∧ ∀ j v, (l.map (Value.float .f64))[j]? = some v → w3.cell? (ad.add j) = some v) := Lib.hid (fun hp => by
    rw [List.length_map] at hp
    obtain ⟨b, o, rfl, hF⟩ : ∃ b o, A = some ⟨b, o, none⟩ ∧ FL w3 b o l := HF.out.resolve_left (fun e => by rw [e] at hp; exact absurd hp (Nat.lt_irrefl 0))
    refine ⟨rfl, ⟨b, o, none⟩, rfl, fun j v hj => ?_⟩
    rw [List.getElem?_map] at hj
    cases hx : l[j]? with
    | none => rw [hx] at hj; cases hj
    | some x =>
      rw [hx] at hj
      cases hj
      have hc := hF.cell j x hx
      unfold Addr.add
      split
      · rename_i h0; subst h0; exact hc
      · exact hc)
  go_upto_region 3 with ((refine wpList_copy_splice (o := ⟨some 10, _, _, _, _, _⟩) rfl (.tmp 8) (.tmp 9) 22 22 rfl 24 Try.underlying22 (by kernel_rfl) (some ⟨w.heap.size, 0, none⟩) A (l.length + 2) (l.length + 2) l.length c rfl rfl w.heap.size 0 ((List.replicate (l.length + 2) 0).map (Value.float .f64)) 24 HG.out.1 (l.map (Value.float .f64)) (by rw [List.length_map]; exact (Nat.min_eq_left (by omega)).symm) HCP.out (by rw [List.length_map, List.length_map, List.length_replicate]; omega) (fun v hv => by obtain ⟨x, _, rfl⟩ := List.mem_map.1 hv; rfl) w.heap.size w B3.out (Nat.le_refl _) ?_); intro w4 hg4 hb4)
  have O4 : Hid (OwnF w4 w.heap.size w.heap.size (l.length + 2) (l ++ [0, 0])) := Lib.hid (OwnF.of (by have := hg4.out; rw [lent_splice] at this; exact this) (Nat.le_refl _) HG.out.2.2.1 (by simp))
  have B4 := Lib.hid hb4
  have st1 : (store ⟨w.heap.size, l.length, none⟩ (.float .f64 4635118810238550016)).run Try.prog w4 = .ok () (w4.setCell ⟨w.heap.size, l.length, none⟩ (.float .f64 4635118810238550016)) := O4.out.store (by omega) _
  have O5 : Hid (OwnF (w4.setCell ⟨w.heap.size, l.length, none⟩ (.float .f64 4635118810238550016)) w.heap.size w.heap.size (l.length + 2) (l ++ [MK77, 0])) := Lib.hid (by
    have := (World.ownsRow.stored O4.out l.length (.float .f64 MK77)).1
    rw [← List.map_set, List.set_append_right _ _ (Nat.le_refl _), Nat.sub_self, List.set_cons_zero] at this
    exact this)
  have st2 : (store ⟨w.heap.size, l.length + 1, none⟩ (.float .f64 4635189178982727680)).run Try.prog (w4.setCell ⟨w.heap.size, l.length, none⟩ (.float .f64 4635118810238550016)) = .ok () ((w4.setCell ⟨w.heap.size, l.length, none⟩ (.float .f64 4635118810238550016)).setCell ⟨w.heap.size, l.length + 1, none⟩ (.float .f64 4635189178982727680)) := O5.out.store (by omega) _
  have O6 : Hid (OwnF ((w4.setCell ⟨w.heap.size, l.length, none⟩ (.float .f64 4635118810238550016)).setCell ⟨w.heap.size, l.length + 1, none⟩ (.float .f64 4635189178982727680)) w.heap.size w.heap.size (l.length + 2) (l ++ [MK77, MK78])) := Lib.hid (by
    have := (World.ownsRow.stored O5.out (l.length + 1) (.float .f64 MK78)).1
    rw [← List.map_set, List.set_append_right _ _ (by omega), show l.length + 1 - l.length = 1 by omega] at this
    exact this)
  have B6 := Lib.hid ((B4.out.setCell (p := ⟨w.heap.size, l.length, none⟩) (Nat.le_refl _) (.float .f64 4635118810238550016)).setCell (p := ⟨w.heap.size, l.length + 1, none⟩) (Nat.le_refl _) (.float .f64 4635189178982727680))
  clear hg4 hb4 HCP HG HF B3 O4 O5 B4 hl
  go_wp2
  go_ret
  exact ⟨rfl, O6.out, B6.out⟩
set_option maxRecDepth 100000 in
set_option maxHeartbeats 1000000 in
theorem c117 (A : Option Addr) (c g : Nat) (l : List Nat) (w : World) (h : FS w A l) (hg : FL w g 0 (l ++ [MK77, MK78])) (hl : l.length * 8 ≤ 140737488351232) :
    Calls Try.prog 117 #[.slice (some ⟨g, 0, none⟩) l.length (l.length + 2), .slice A l.length c] w fun e w' => e = .returned (.bool true) ∧ Below w.heap.size w w' := by
  have H := Lib.hid h
  have HG := Lib.hid hg
  have n1 : (l.length : Int) ≤ 17592186044416 := by omega
  have e7 : (FloatKind.f64.format.order 4635118810238550016 4635118810238550016 == some Ordering.eq) = true := by decide
  have e8 : (FloatKind.f64.format.order 4635189178982727680 4635189178982727680 == some Ordering.eq) = true := by decide
  clear h hg hl
  go_enter Try.func117, Try.ntmps117
  go_wp2_with fail
  go_loopw [6] (fun i wx => ∃ k : Nat, k ≤ l.length ∧ i = .int .i64 k ∧ Hid (Below w.heap.size w wx)) (fun i _ => l.length - (intOf i).toNat)
  case atStart => exact ⟨0, by omega, rfl, Lib.hid (Below.refl _ _)⟩
  case round =>
    obtain ⟨k, hk, rfl, hB⟩ := hrel
    by_cases hlt : k < l.length
    · obtain ⟨b, o, rfl, hF⟩ : ∃ b o, A = some ⟨b, o, none⟩ ∧ FL w b o l := H.out.resolve_left (fun e => by rw [e] at hlt; exact absurd hlt (Nat.not_lt_zero _))
      have hki : (k : Int) < (l.length : Int) := by omega
      obtain ⟨x, hx⟩ : ∃ x, l[k]? = some x := ⟨l[k], List.getElem?_eq_getElem hlt⟩
      have HLT := Lib.hid hlt
      have UX := Lib.hid (hF.u k x hx)
      have kc := (hF.below hB.out).cell k x hx
      have kg := (HG.out.below hB.out).cell k x (by rw [List.getElem?_append_left hlt]; exact hx)
      rw [Nat.zero_add] at kg
      have B2 := Lib.hid (fun n => Bd hB.out n)
      clear hx hlt hF H
      go_upto_region 5 with fail
      go_quiet ((go_at_call 24; exact Calls.quiet_of_same ((c24t x x _ UX.out UX.out rfl).mono fun _ _ ⟨a, b⟩ => ⟨a, b.symm⟩)))
      go_wp2_with fail
      go_roundw
      case rel => exact ⟨k + 1, by have := HLT.out; omega, by go_num, Lib.hid (B2.out _)⟩
      case measure => have := HLT.out; simp [intOf]; omega
    · have hki : ¬ (k : Int) < (l.length : Int) := by omega
      have k7 := (HG.out.below hB.out).cell l.length MK77 (by rw [List.getElem?_append_right (Nat.le_refl _), Nat.sub_self]; rfl)
      have k8 := (HG.out.below hB.out).cell (l.length + 1) MK78 (by rw [List.getElem?_append_right (by omega), show l.length + 1 - l.length = 1 by omega]; rfl)
      rw [Nat.zero_add] at k7 k8
      have k7 : wr.cell? ⟨g, l.length, none⟩ = some (.float .f64 4635118810238550016) := k7
      have k8 : wr.cell? ⟨g, l.length + 1, none⟩ = some (.float .f64 4635189178982727680) := k8
      clear hlt
      go_wp2
      go_ret
      exact ⟨rfl, hB.out⟩
end Go.Proofs.Ytelalledjbeenaa

namespace Go.Proofs.Ytelalledjbeenaa
open Go.RowKit Fl

set_option maxRecDepth 100000 in
set_option maxHeartbeats 2000000 in
theorem walkSumsTell (A : Option Addr) (l : List Nat) (c : Nat) (w : World) (h : FS w A l) (hlc : l.length ≤ c) (hc : c * 8 ≤ 140737488351232) :
    Calls Try.prog 20 #[.slice A l.length c] w fun e w' => e = .returned (.bool true) ∧ Below w.heap.size w w' := by
  have H := Lib.hid h
  have HL := Lib.hid (show l.length * 8 ≤ 140737488351232 by omega)
  have HC := Lib.hid hlc
  clear h hlc hc
  go_enter Try.func20, Try.ntmps20
  go_wp2_with fail
  refine (c22 _).mono ?_
  rintro e w1 ⟨rfl, hb⟩
  have B1 := Lib.hid hb
  clear hb
  go_wp2_with fail
  refine (c116 A c l _ (H.out.below B1.out) HL.out).mono ?_
  rintro e w2 ⟨rfl, ho, hb⟩
  have hU : ∀ x ∈ l ++ [MK77, MK78], U x := by
    intro x hx
    rcases List.mem_append.1 hx with h | h
    · exact H.out.u x h
    · simp only [List.mem_cons, List.not_mem_nil, or_false] at h
      rcases h with rfl | rfl <;> (unfold U; decide)
  have F2 := Lib.hid (ho.FL hU (by omega))
  have B2 := Lib.hid (below_trans B1.out hb)
  clear hb ho B1 hU
  generalize w1.heap.size = g at *
  have G2 : Hid (FL w2 g 0 l) := Lib.hid (by have := F2.out.take l.length; rwa [List.take_left] at this)
  go_wp2_with fail
  refine (c26 g 0 (l.length + 2) l _ G2.out (by have := HL.out; omega)).mono ?_
  rintro e w3 ⟨⟨p, rfl, up, hp⟩, hb⟩
  have G3 := Lib.hid (G2.out.below hb)
  have F3 := Lib.hid (F2.out.below hb)
  have B3 := Lib.hid (below_trans B2.out hb)
  have P := Lib.hid (And.intro up hp)
  clear hb up hp B2 F2 G2
  go_wp2_with fail
  refine (c28 l.length g 0 (l.length + 2) l _ (Nat.le_refl _) G3.out (by omega) (by have := HL.out; omega)).mono ?_
  rintro e w4 ⟨⟨q, rfl, up, hp⟩, hb⟩
  have G4 := Lib.hid (G3.out.below hb)
  have F4 := Lib.hid (F3.out.below hb)
  have B4 := Lib.hid (below_trans B3.out hb)
  have Q := Lib.hid (And.intro up hp)
  clear hb up hp B3 F3 G3
  go_wp2_with fail
  refine (c27 g 0 (l.length + 2) l _ G4.out (by have := HL.out; omega)).mono ?_
  rintro e w5 ⟨⟨r, rfl, up, hp⟩, hb⟩
  have G5 := Lib.hid (G4.out.below hb)
  have F5 := Lib.hid (F4.out.below hb)
  have B5 := Lib.hid (below_trans B4.out hb)
  have R := Lib.hid (And.intro up hp)
  clear hb up hp B4 F4 G4
  go_wp2_with fail
  refine (c23 g 0 (l.length + 2) l _ G5.out (by have := HL.out; omega)).mono ?_
  rintro e w6 ⟨⟨s, rfl, up, hp⟩, hb⟩
  have G6 := Lib.hid (G5.out.below hb)
  have F6 := Lib.hid (F5.out.below hb)
  have B6 := Lib.hid (below_trans B5.out hb)
  have S := Lib.hid (And.intro up hp)
  clear hb up hp B5 F5 G5
  go_wp2_with fail
  refine (c117 A c g l _ (H.out.below B6.out) F6.out HL.out).mono ?_
  rintro e w7 ⟨rfl, hb⟩
  have G7 := Lib.hid (G6.out.below hb)
  have B7 := Lib.hid (below_trans B6.out hb)
  clear hb B6 F6 G6
  go_wp2_with fail
  refine (c23 g 0 (l.length + 2) l _ G7.out (by have := HL.out; omega)).mono ?_
  rintro e w8 ⟨⟨s2, rfl, up, hp⟩, hb⟩
  have B8 := Lib.hid (below_trans B7.out hb)
  have S2 := Lib.hid (And.intro up hp)
  clear hb up hp B7 G7
  go_wp2_with fail
  refine (c118F A c l _ (H.out.below B8.out) (by have := HL.out; omega)).mono ?_
  rintro e w9 ⟨⟨p2, rfl, up, hp⟩, hb⟩
  have B9 := Lib.hid (below_trans B8.out hb)
  have P2 := Lib.hid (And.intro up hp)
  clear hb up hp B8
  go_wp2_with fail
  refine (c24t p p2 _ P.out.1 P2.out.1 (by rw [P.out.2, P2.out.2])).mono ?_
  rintro e w' ⟨rfl, rfl⟩
  clear P P2
  go_wp2_with fail
  refine (c119F A c l _ (H.out.below B9.out) HC.out (by have := HL.out; omega)).mono ?_
  rintro e w10 ⟨⟨q2, rfl, up, hp⟩, hb⟩
  have B10 := Lib.hid (below_trans B9.out hb)
  have Q2 := Lib.hid (And.intro up hp)
  clear hb up hp B9
  go_wp2_with fail
  refine (c24t q q2 _ Q.out.1 Q2.out.1 (by rw [Q.out.2, Q2.out.2])).mono ?_
  rintro e w' ⟨rfl, rfl⟩
  clear Q Q2
  go_wp2_with fail
  refine (c120F A c l _ (H.out.below B10.out) (by have := HL.out; omega)).mono ?_
  rintro e w11 ⟨⟨r2, rfl, up, hp⟩, hb⟩
  have B11 := Lib.hid (below_trans B10.out hb)
  have R2 := Lib.hid (And.intro up hp)
  clear hb up hp B10
  go_wp2_with fail
  refine (c24t r r2 _ R.out.1 R2.out.1 (by rw [R.out.2, R2.out.2])).mono ?_
  rintro e w' ⟨rfl, rfl⟩
  clear R R2
  go_wp2_with fail
  refine (c121F A c l _ (H.out.below B11.out) (by have := HL.out; omega)).mono ?_
  rintro e w12 ⟨⟨s3, rfl, up, hp⟩, hb⟩
  have B12 := Lib.hid (below_trans B11.out hb)
  have S3 := Lib.hid (And.intro up hp)
  clear hb up hp B11
  go_wp2_with fail
  refine (c24t s s3 _ S.out.1 S3.out.1 (by rw [S.out.2, S3.out.2])).mono ?_
  rintro e w' ⟨rfl, rfl⟩
  go_wp2_with fail
  refine (c24t s2 s _ S2.out.1 S.out.1 (by rw [S.out.2, S2.out.2])).mono ?_
  rintro e w' ⟨rfl, rfl⟩
  go_wp2
  go_ret
  exact ⟨rfl, B12.out⟩
end Go.Proofs.Ytelalledjbeenaa
