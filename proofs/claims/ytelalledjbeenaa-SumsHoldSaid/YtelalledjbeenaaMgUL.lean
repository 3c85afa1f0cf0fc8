/- Exact of the reference's. An Acc joined to itself. -/
import Derived.Test.YtelalledjbeenaaUK
import Derived.Test.YtelalledjbeenaaMgAccI
namespace Go.Proofs.Ytelalledjbeenaa
open Go.RowKit Fl

theorem zero110 : Try.zeroCells110 = (List.replicate 140 (Value.int .u32 0) ++ List.replicate 5 (Value.int .i64 0)).toArray := by kernel_rfl
theorem dg_zero (j : Nat) : dg 0 j = 0 := by unfold dg; rw [Nat.zero_div]
theorem sum_new (w : World) : SumAt (w.alloc (.cells Try.zeroCells110 110)) w.heap.size 0 RS.zero := by
  have hu : ∀ j, j < 140 → (w.alloc (.cells Try.zeroCells110 110)).cell? ⟨w.heap.size, j, Option.none⟩ = some (.int .u32 0) := fun j hj => by
    rw [World.cell?_alloc_new w _ 110 j, zero110, List.getElem?_toArray, List.getElem?_append_left (by rw [List.length_replicate]; exact hj), List.getElem?_replicate, if_pos hj]
  have hi : ∀ j, j < 5 → (w.alloc (.cells Try.zeroCells110 110)).cell? ⟨w.heap.size, 140 + j, Option.none⟩ = some (.int .i64 0) := fun j hj => by
    rw [World.cell?_alloc_new w _ 110 (140 + j), zero110, List.getElem?_toArray, List.getElem?_append_right (by rw [List.length_replicate]; omega), List.length_replicate, List.getElem?_replicate, if_pos (by omega)]
  have hf : ∀ j, (w.alloc (.cells Try.zeroCells110 110)).frozen? ⟨w.heap.size, j, Option.none⟩ = false := fun j => by simp [go_sem]
  refine ⟨fun j hj => ⟨?_, hf _⟩, fun j hj => ⟨?_, hf _⟩, ⟨?_, hf _⟩, ⟨?_, hf _⟩, ⟨?_, hf _⟩, ⟨?_, hf _⟩, ⟨?_, hf _⟩⟩
  · rw [show RS.zero.up = 0 from rfl, dg_zero, hu _ (by omega)]; rfl
  · rw [show RS.zero.down = 0 from rfl, dg_zero, hu _ (by omega)]; rfl
  · exact hi 0 (by omega)
  · exact hi 1 (by omega)
  · exact hi 2 (by omega)
  · exact hi 3 (by omega)
  · exact hi 4 (by omega)
theorem OnlyC.Below {b lo hi B : Nat} {w w1 w2 : World} (h : OnlyC b lo hi w1 w2) (hB : B ≤ b) (hs : B ≤ w1.heap.size) (k : Below B w w1) : Below B w w2 := h.only.below hB hs k

set_option maxRecDepth 100000 in
set_option maxHeartbeats 1000000 in
theorem c121 (b o c : Nat) (l : List Nat) (w : World) (h : FL w b o l) (hl : l.length < 4611686018427387904) :
    Calls Try.prog 121 #[.slice (some ⟨b, o, none⟩) l.length c] w fun e w' => RetF (pV (accS l)) e ∧ Below w.heap.size w w' := by
  have H := Lib.hid h
  have hz := (sumR_ok l).small (by rw [sumR_many]; exact hl)
  have HZ := Lib.hid hz
  have A0 : Hid (SumAt (w.alloc (.cells Try.zeroCells110 110)) w.heap.size 0 (sumR (l.take 0))) := Lib.hid (sum_new w)
  have B0 := Lib.hid (show Below w.heap.size w (w.alloc (.cells Try.zeroCells110 110)) from (Below.refl _ _).alloc (Nat.le_refl _) _)
  have S0 := Lib.hid (show w.heap.size < (w.alloc (.cells Try.zeroCells110 110)).heap.size by simp)
  have HL := Lib.hid hl
  clear hz
  go_enter Try.func121, Try.ntmps121
  go_wp2_with fail
  go_loopw [4] (fun i wx => ∃ k : Nat, k ≤ l.length ∧ i = .int .i64 k ∧ Hid (SumAt wx w.heap.size 0 (sumR (l.take k))) ∧ Hid (Below w.heap.size w wx) ∧ Hid (w.heap.size < wx.heap.size)) (fun i _ => l.length - (intOf i).toNat)
  case atStart => exact ⟨0, by omega, rfl, A0, B0, S0⟩
  case round =>
    obtain ⟨k, hk, rfl, hA, hB, hS⟩ := hrel
    by_cases hlt : k < l.length
    · have hki : (k : Int) < (l.length : Int) := by omega
      obtain ⟨x, hx⟩ : ∃ x, l[k]? = some x := ⟨l[k], List.getElem?_eq_getElem hlt⟩
      have HX := Lib.hid hx
      have HLT := Lib.hid hlt
      have HU := Lib.hid (H.out.u k x hx)
      have kc := (H.out.below hB.out).cell k x hx
      clear hx h hlt A0 B0 S0
      go_wp2_with (go_at_call 113; fail)
      refine (c113 w.heap.size 0 _ x _ HU.out hA.out hS.out (by
        have hk := sumR_ok (l.take k)
        have h1 := hk.cold
        have h2 := hk.none
        have h3 := hk.high
        have h4 := hk.low
        have h5 := sumR_many (l.take k)
        rw [List.length_take] at h5
        have := HL.out
        have := HLT.out
        omega)).mono ?_
      rintro e w2 ⟨rfl, ha2, ho2⟩
      have A2 : Hid (SumAt w2 w.heap.size 0 (sumR (l.take (k + 1)))) := Lib.hid (by rw [sumR_take l k x HX.out]; exact ha2)
      have B2 := Lib.hid (ho2.Below (Nat.le_refl _) (Nat.le_of_lt hS.out) hB.out)
      have S2 := Lib.hid (Nat.lt_of_lt_of_le hS.out ho2.only.size)
      clear ha2 ho2 kc
      go_wp2
      go_roundw
      case rel => exact ⟨k + 1, by have := HLT.out; omega, by go_num, A2, B2, S2⟩
      case measure => have := HLT.out; simp [intOf]; omega
    · have hki : ¬ (k : Int) < (l.length : Int) := by omega
      have hkl : k = l.length := by omega
      have hA2 : Hid (SumAt _ w.heap.size 0 (sumR l)) := Lib.hid (by have := hA.out; rw [hkl, List.take_length] at this; exact this)
      clear hlt hkl h A0 B0 S0 hA
      go_wp2_with (go_at_call 115; fail)
      refine (c115 _ _ _ _ hA2.out hS.out HZ.out.1 HZ.out.2).mono ?_
      rintro e w2 ⟨⟨r, rfl, hr⟩, hb2⟩
      have HB := Lib.hid (hB.out.trans (hb2.mono hB.out.size))
      have HR := Lib.hid hr
      clear hb2 hr
      go_wp2
      go_ret
      exact ⟨⟨r, rfl, by rw [← sumR_acc]; exact HR.out⟩, HB.out⟩
end Go.Proofs.Ytelalledjbeenaa

namespace Go.Proofs.Ytelalledjbeenaa
open Go.RowKit Fl

set_option maxRecDepth 100000 in
set_option maxHeartbeats 4000000 in
theorem c38s (b : Nat) (s : AS) (w : World) (hs : AccAt w b s) (hb : b < w.heap.size) :
    Calls Try.prog 38 #[.pointer (some ⟨b, 0, none⟩), .pointer (some ⟨b, 0, none⟩)] w fun e w' => e = .returned (.tuple #[]) ∧ AccAt w' b (joinS s s) ∧ Only b w w' := by
  have HS := Lib.hid hs
  obtain ⟨J, hJ⟩ : ∃ J, J = joinS s s := ⟨_, rfl⟩
  rw [← hJ]
  have HJ := Lib.hid hJ
  clear hJ
  go_enter Try.func38, Try.ntmps38
  go_upto_region 1 with fail
  go_cut [] (fun wx => Hid (AccAt wx b { s with z := s.z + s.z }) ∧ Hid (Only b w wx))
  case first =>
    clear hs
    refine wp_region_rel 12 (fun w' => AccAt w' b s ∧ Only b w w') (fun _ _ v => v = .agg (WL (s.z + s.z)).toArray) (by kernel_rfl) (by kernel_rfl) ⟨HS.out.drew, (Only.refl b w).drew⟩ ?_
    simp only [List.take_succ_cons, List.take_zero, List.drop_succ_cons, List.drop_zero]
    refine rel_move (v := .pointer (some ⟨b, 0, none⟩)) rfl rfl ?_
    simp only [Act.put, List.setIfInBounds_toArray, List.set_cons_succ, List.set_cons_zero]
    refine rel_move (v := .pointer (some ⟨b, 0, none⟩)) rfl rfl ?_
    simp only [Act.put, List.setIfInBounds_toArray, List.set_cons_succ, List.set_cons_zero]
    refine rel_val (v := .pointer (some ⟨b, 0, none⟩)) rfl (fun w' hw => by go_simp) ?_
    simp only [Act.put, List.setIfInBounds_toArray, List.set_cons_succ, List.set_cons_zero]
    refine rel_val (v := .pointer (some ⟨b, 0, none⟩)) rfl (fun w' hw => by go_simp) ?_
    simp only [Act.put, List.setIfInBounds_toArray, List.set_cons_succ, List.set_cons_zero]
    refine rel_load_row b 0 (WL s.z) _ rfl rfl (fun w' hw => hw.1.row.range) Try.underlying138 rfl (len138 _) ?_
    simp only [Act.put, List.setIfInBounds_toArray, List.set_cons_succ, List.set_cons_zero]
    refine rel_move (v := .pointer (some ⟨b, 0, none⟩)) rfl rfl ?_
    simp only [Act.put, List.setIfInBounds_toArray, List.set_cons_succ, List.set_cons_zero]
    refine rel_val (v := .pointer (some ⟨b, 0, none⟩)) rfl (fun w' hw => by go_simp) ?_
    simp only [Act.put, List.setIfInBounds_toArray, List.set_cons_succ, List.set_cons_zero]
    refine rel_val (v := .pointer (some ⟨b, 0, none⟩)) rfl (fun w' hw => by go_simp) ?_
    simp only [Act.put, List.setIfInBounds_toArray, List.set_cons_succ, List.set_cons_zero]
    refine rel_load_row b 0 (WL s.z) _ rfl rfl (fun w' hw => hw.1.row.range) Try.underlying138 rfl (len138 _) ?_
    simp only [Act.put, List.setIfInBounds_toArray, List.set_cons_succ, List.set_cons_zero]
    refine rel_call (f := 143) (args := #[.agg (WL s.z).toArray, .agg (WL s.z).toArray]) rfl (fun w' hw => by go_simp) (fun w' hw => ?_) (fun v hv => ?_)
    · refine (c143 s.z s.z w').mono ?_
      rintro y w'' ⟨rfl, hb2⟩
      exact ⟨_, rfl, rfl, hw.1.below hb2 (by have := hw.2.size; omega), hw.2.below_fresh (hb2.mono hw.2.size)⟩
    rw [hv]
    simp only [Act.put, List.setIfInBounds_toArray, List.set_cons_succ, List.set_cons_zero]
    refine rel_val (v := .pointer (some ⟨b, 0, none⟩)) rfl (fun w' hw => by go_simp) ?_
    simp only [Act.put, List.setIfInBounds_toArray, List.set_cons_succ, List.set_cons_zero]
    refine rel_val (v := .pointer (some ⟨b, 0, none⟩)) rfl (fun w' hw => by go_simp) ?_
    simp only [Act.put, List.setIfInBounds_toArray, List.set_cons_succ, List.set_cons_zero]
    refine rel_nil ?_
    rintro w3 ⟨hA4, hO4⟩
    have hT : w3.there b 0 (WL (s.z + s.z)).toArray.size := hA4.row.there (by simp [WL_len])
    have hi : (Try.prog.info? 138).map (·.size) = some (WL (s.z + s.z)).toArray.size := by rw [size138]; simp [WL_len]
    refine wpList_store_mid rfl 138 (.tmp 17) (.tmp 15) rfl b 0 (WL (s.z + s.z)).toArray rfl rfl hT hi (WL_one _) ?_
    have A5 := Lib.hid (hA4.setRow (s.z + s.z))
    have O5 := Lib.hid (hO4.setCells 0 (WL (s.z + s.z)))
    clear hA4 hO4 hT hi
    go_wp2
    go_meet
    exact ⟨A5, O5⟩
  case rest =>
    obtain ⟨hA, hO⟩ := hcut
    clear hs
    go_upto_region 2 with fail
    go_cut [] (fun wx => Hid (AccAt wx b ⟨s.z + s.z, (s.nan || s.nan), s.pos, s.neg, s.any⟩) ∧ Hid (Only b w wx))
    case first =>
      have A1 := Lib.hid (hA.out.set0 (s.nan || s.nan))
      have O1 := Lib.hid (hO.out.setCell (o := 40) (.bool (s.nan || s.nan)))
      have T := hA.out
      have k := hA.out.c0
      have f := hA.out.f0
      simp only at k
      clear T
      generalize s.nan = p at *
      cases p
      all_goals
        go_wp2
        go_meet
        exact ⟨A1, O1⟩
    case rest =>
      obtain ⟨hA, hO⟩ := hcut
      go_upto_region 3 with fail
      go_cut [] (fun wx => Hid (AccAt wx b ⟨s.z + s.z, (s.nan || s.nan), (s.pos || s.pos), s.neg, s.any⟩) ∧ Hid (Only b w wx))
      case first =>
        have A1 := Lib.hid (hA.out.set1 (s.pos || s.pos))
        have O1 := Lib.hid (hO.out.setCell (o := 41) (.bool (s.pos || s.pos)))
        have T := hA.out
        have k := hA.out.c1
        have f := hA.out.f1
        simp only at k
        clear T
        generalize s.pos = p at *
        cases p
        all_goals
          go_wp2
          go_meet
          exact ⟨A1, O1⟩
      case rest =>
        obtain ⟨hA, hO⟩ := hcut
        go_upto_region 4 with fail
        go_cut [] (fun wx => Hid (AccAt wx b ⟨s.z + s.z, (s.nan || s.nan), (s.pos || s.pos), (s.neg || s.neg), s.any⟩) ∧ Hid (Only b w wx))
        case first =>
          have A1 := Lib.hid (hA.out.set2 (s.neg || s.neg))
          have O1 := Lib.hid (hO.out.setCell (o := 42) (.bool (s.neg || s.neg)))
          have T := hA.out
          have k := hA.out.c2
          have f := hA.out.f2
          simp only at k
          clear T
          generalize s.neg = p at *
          cases p
          all_goals
            go_wp2
            go_meet
            exact ⟨A1, O1⟩
        case rest =>
          obtain ⟨hA, hO⟩ := hcut
          have A1 : Hid (AccAt (wc.setCell ⟨b, 43, none⟩ (.bool (s.any || s.any))) b J) := Lib.hid (by rw [HJ.out]; exact hA.out.set3 (s.any || s.any))
          have O1 := Lib.hid (hO.out.setCell (o := 43) (.bool (s.any || s.any)))
          have T := hA.out
          have k := hA.out.c3
          have f := hA.out.f3
          simp only at k
          clear T HJ HS hA
          generalize s.any = p at *
          cases p
          all_goals
            go_wp2
            refine bodyPost_end (v := .tuple #[]) (results_none rfl _ _ _) rfl ⟨rfl, ?_, ?_⟩
            · exact A1.out
            · exact O1.out
end Go.Proofs.Ytelalledjbeenaa
