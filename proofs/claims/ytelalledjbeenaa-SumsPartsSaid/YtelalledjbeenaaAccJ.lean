/- An Acc: Join. -/
import Derived.Test.YtelalledjbeenaaAccI
namespace Go.Proofs.Ytelalledjbeenaa
open Go.RowKit Fl

def joinS (s t : AS) : AS := ⟨s.z + t.z, s.nan || t.nan, s.pos || t.pos, s.neg || t.neg, s.any || t.any⟩
theorem c38n (b : Nat) (w : World) : Calls Try.prog 38 #[.pointer (some ⟨b, 0, none⟩), .pointer none] w fun e w' => e = .returned (.tuple #[]) ∧ w = w' := by
  go_enter Try.func38, Try.ntmps38
  go_wp2
  refine bodyPost_ret (v := .tuple #[]) (results_none rfl _ _ _) rfl ⟨rfl, rfl⟩

set_option maxRecDepth 100000 in
set_option maxHeartbeats 4000000 in
theorem c38 (b d : Nat) (s t : AS) (w : World) (hs : AccAt w b s) (ht : AccAt w d t) (hb : b < w.heap.size) (hd : d < w.heap.size) (hne : d ≠ b) :
    Calls Try.prog 38 #[.pointer (some ⟨b, 0, none⟩), .pointer (some ⟨d, 0, none⟩)] w fun e w' => e = .returned (.tuple #[]) ∧ AccAt w' b (joinS s t) ∧ Only b w w' := by
  have HS := Lib.hid hs
  have HT := Lib.hid ht
  obtain ⟨J, hJ⟩ : ∃ J, J = joinS s t := ⟨_, rfl⟩
  rw [← hJ]
  have HJ := Lib.hid hJ
  clear hJ
  go_enter Try.func38, Try.ntmps38
  go_upto_region 1 with fail
  go_cut [] (fun wx => Hid (AccAt wx b { s with z := s.z + t.z }) ∧ Hid (Only b w wx))
  case first =>
    clear hs ht
    refine wp_region_rel 12 (fun w' => AccAt w' b s ∧ Only b w w') (fun _ _ v => v = .agg (WL (s.z + t.z)).toArray) (by kernel_rfl) (by kernel_rfl) ⟨HS.out.drew, (Only.refl b w).drew⟩ ?_
    simp only [List.take_succ_cons, List.take_zero, List.drop_succ_cons, List.drop_zero]
    refine rel_move (v := .pointer (some ⟨b, 0, none⟩)) rfl rfl ?_
    simp only [Act.put, List.setIfInBounds_toArray, List.set_cons_succ, List.set_cons_zero]
    refine rel_move (v := .pointer (some ⟨b, 0, none⟩)) rfl rfl ?_
    simp only [Act.put, List.setIfInBounds_toArray, List.set_cons_succ, List.set_cons_zero]
    refine rel_val (v := .pointer (some ⟨b, 0, none⟩)) rfl (fun w' hw => by go_simp) ?_
    simp only [Act.put, List.setIfInBounds_toArray, List.set_cons_succ, List.set_cons_zero]
    refine rel_val (v := .pointer (some ⟨b, 0, none⟩)) rfl (fun w' hw => by go_simp) ?_
    simp only [Act.put, List.setIfInBounds_toArray, List.set_cons_succ, List.set_cons_zero]
    refine rel_load_row b 0 (WL s.z) _ rfl rfl (fun w' hw => hw.1.row.range) Try.underlying138 rfl (len138 _) ?_
    simp only [Act.put, List.setIfInBounds_toArray, List.set_cons_succ, List.set_cons_zero]
    refine rel_move (v := .pointer (some ⟨d, 0, none⟩)) rfl rfl ?_
    simp only [Act.put, List.setIfInBounds_toArray, List.set_cons_succ, List.set_cons_zero]
    refine rel_val (v := .pointer (some ⟨d, 0, none⟩)) rfl (fun w' hw => by go_simp) ?_
    simp only [Act.put, List.setIfInBounds_toArray, List.set_cons_succ, List.set_cons_zero]
    refine rel_val (v := .pointer (some ⟨d, 0, none⟩)) rfl (fun w' hw => by go_simp) ?_
    simp only [Act.put, List.setIfInBounds_toArray, List.set_cons_succ, List.set_cons_zero]
    refine rel_load_row d 0 (WL t.z) _ rfl rfl (fun w' hw => (HT.out.only hw.2 hd hne).row.range) Try.underlying138 rfl (len138 _) ?_
    simp only [Act.put, List.setIfInBounds_toArray, List.set_cons_succ, List.set_cons_zero]
    refine rel_call (f := 143) (args := #[.agg (WL s.z).toArray, .agg (WL t.z).toArray]) rfl (fun w' hw => by go_simp) (fun w' hw => ?_) (fun v hv => ?_)
    · refine (c143 s.z t.z w').mono ?_
      rintro y w'' ⟨rfl, hb2⟩
      exact ⟨_, rfl, rfl, hw.1.below hb2 (by have := hw.2.size; omega), hw.2.below_fresh (hb2.mono hw.2.size)⟩
    rw [hv]
    simp only [Act.put, List.setIfInBounds_toArray, List.set_cons_succ, List.set_cons_zero]
    refine rel_val (v := .pointer (some ⟨b, 0, none⟩)) rfl (fun w' hw => by go_simp) ?_
    simp only [Act.put, List.setIfInBounds_toArray, List.set_cons_succ, List.set_cons_zero]
    refine rel_val (v := .pointer (some ⟨b, 0, none⟩)) rfl (fun w' hw => by go_simp) ?_
    simp only [Act.put, List.setIfInBounds_toArray, List.set_cons_succ, List.set_cons_zero]
    refine rel_nil ?_
    rintro w3 ⟨hA4, hO4⟩
    have hT : w3.there b 0 (WL (s.z + t.z)).toArray.size := hA4.row.there (by simp [WL_len])
    have hi : (Try.prog.info? 138).map (·.size) = some (WL (s.z + t.z)).toArray.size := by rw [size138]; simp [WL_len]
    refine wpList_store_mid rfl 138 (.tmp 17) (.tmp 15) rfl b 0 (WL (s.z + t.z)).toArray rfl rfl hT hi (WL_one _) ?_
    have A5 := Lib.hid (hA4.setRow (s.z + t.z))
    have O5 := Lib.hid (hO4.setCells 0 (WL (s.z + t.z)))
    clear hA4 hO4 hT hi
    go_wp2
    go_meet
    exact ⟨A5, O5⟩
  case rest =>
    obtain ⟨hA, hO⟩ := hcut
    clear hs ht
    have HTT := Lib.hid (And.intro hd hne)
    clear hd hne
    go_upto_region 2 with fail
    go_cut [] (fun wx => Hid (AccAt wx b ⟨s.z + t.z, (s.nan || t.nan), s.pos, s.neg, s.any⟩) ∧ Hid (Only b w wx))
    case first =>
      have A1 := Lib.hid (hA.out.set0 (s.nan || t.nan))
      have O1 := Lib.hid (hO.out.setCell (o := 40) (.bool (s.nan || t.nan)))
      have T := HT.out.only hO.out HTT.out.1 HTT.out.2
      have k := hA.out.c0
      have f := hA.out.f0
      have kt := T.c0
      simp only at k
      clear T
      generalize s.nan = p at *
      cases p
      all_goals
        go_wp2
        go_meet
        exact ⟨A1, O1⟩
    case rest =>
      obtain ⟨hA, hO⟩ := hcut
      go_upto_region 3 with fail
      go_cut [] (fun wx => Hid (AccAt wx b ⟨s.z + t.z, (s.nan || t.nan), (s.pos || t.pos), s.neg, s.any⟩) ∧ Hid (Only b w wx))
      case first =>
        have A1 := Lib.hid (hA.out.set1 (s.pos || t.pos))
        have O1 := Lib.hid (hO.out.setCell (o := 41) (.bool (s.pos || t.pos)))
        have T := HT.out.only hO.out HTT.out.1 HTT.out.2
        have k := hA.out.c1
        have f := hA.out.f1
        have kt := T.c1
        simp only at k
        clear T
        generalize s.pos = p at *
        cases p
        all_goals
          go_wp2
          go_meet
          exact ⟨A1, O1⟩
      case rest =>
        obtain ⟨hA, hO⟩ := hcut
        go_upto_region 4 with fail
        go_cut [] (fun wx => Hid (AccAt wx b ⟨s.z + t.z, (s.nan || t.nan), (s.pos || t.pos), (s.neg || t.neg), s.any⟩) ∧ Hid (Only b w wx))
        case first =>
          have A1 := Lib.hid (hA.out.set2 (s.neg || t.neg))
          have O1 := Lib.hid (hO.out.setCell (o := 42) (.bool (s.neg || t.neg)))
          have T := HT.out.only hO.out HTT.out.1 HTT.out.2
          have k := hA.out.c2
          have f := hA.out.f2
          have kt := T.c2
          simp only at k
          clear T
          generalize s.neg = p at *
          cases p
          all_goals
            go_wp2
            go_meet
            exact ⟨A1, O1⟩
        case rest =>
          obtain ⟨hA, hO⟩ := hcut
          have A1 : Hid (AccAt (wc.setCell ⟨b, 43, none⟩ (.bool (s.any || t.any))) b J) := Lib.hid (by rw [HJ.out]; exact hA.out.set3 (s.any || t.any))
          have O1 := Lib.hid (hO.out.setCell (o := 43) (.bool (s.any || t.any)))
          have T := HT.out.only hO.out HTT.out.1 HTT.out.2
          have k := hA.out.c3
          have f := hA.out.f3
          have kt := T.c3
          simp only at k
          clear T HJ HS HT hA
          generalize s.any = p at *
          cases p
          all_goals
            go_wp2
            refine bodyPost_end (v := .tuple #[]) (results_none rfl _ _ _) rfl ⟨rfl, ?_, ?_⟩
            · exact A1.out
            · exact O1.out
end Go.Proofs.Ytelalledjbeenaa
