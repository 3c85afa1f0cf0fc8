/- Invert of both sides: printed by geo23.py. -/
import Derived.Test.YtelalledjbeenaaInvC
namespace Go.Proofs.Ytelalledjbeenaa
open Go.RowKit Fl

theorem rv_qr : RV QR 9223372036854775807 := ⟨by unfold U QR; decide, by decide⟩
set_option maxRecDepth 100000 in
set_option maxHeartbeats 4000000 in
theorem k98n {ms : List Nat} (hm : MU ms) (hok : invOk (detP (mp ms)) = false) (w : World) :
    Calls Try.prog 98 #[.agg (ms.map (Value.float .f64)).toArray] w fun e w' => (∃ os : List Nat, e = .returned (.tuple #[.agg (os.map (Value.float .f64)).toArray, .bool false]) ∧ MU os ∧ ∀ j, j < 16 → mp os j = 9223372036854775807) ∧ Below w.heap.size w w' := by
  have HM := Lib.hid hm
  have HK := Lib.hid hok
  clear hm hok
  go_enter Try.func98, Try.ntmps98
  go_upto_region 1 with fail
  refine wp_gen (fun wx => Hid (One wx w (ms.map (Value.float .f64)) 16)) (Lib.hid (one_entry w (ms.map (Value.float .f64)) _ 80 80 16 rfl)) ?_
  intro wc hW
  have RR := Lib.hid hW.out.r1
  have E0 := Lib.hid (size80L ms HM.out.1)
  go_wp2_with (refine wpList_load_mid rfl 80 (.tmp 1) rfl w.heap.size 0 rfl (ms.map (Value.float .f64)) _ RR.out Try.underlying80 rfl E0.out ?_)
  refine (k104 HM.out _).mono ?_
  rintro e w2 ⟨⟨x, rfl, hx⟩, hb⟩
  have W2 := Lib.hid (one_below hW.out hb)
  have HX := Lib.hid hx
  cases hz : feqP (detP (mp ms)) 0
  · have hnz : (FloatKind.f64.format.order x 0 == some Ordering.eq) = false := (RV.eq_ HX.out rv0).trans hz
    have hfin : fin x = false := by
      have h1 := HK.out
      unfold invOk at h1
      rw [hz, ← HX.out.2, ← fin_place x] at h1
      simpa using h1
    have HF := Lib.hid hfin
    clear hb hx hW RR hfin hz
    go_wp2_with fail
    refine (c59 x _ HX.out.1).mono ?_
    rintro e w3 ⟨rfl, rfl⟩
    rw [HF.out]
    have W3 := Lib.hid (show IW (w2.alloc (.cells Z16 80)) w (ms.map (Value.float .f64)) w2.heap.size (List.replicate 16 0) from ⟨one_below W2.out (alloc_below _ _), range_new w2 ((List.replicate 16 0).map (Value.float .f64)) 80, there_new w2 Z16 80 16 rfl, W2.out.lt, by simp⟩)
    clear W2
    go_upto_region 5 with fail
    clear hnz
    refine wp_gen (fun wx => Hid (IW wx w (ms.map (Value.float .f64)) w2.heap.size (List.replicate 16 0))) W3 ?_
    intro wa hW
    clear W3
    generalize w2.heap.size = g at *
    go_wp2_with fail
    go_loopw [7] (fun ii wx => ∃ (k : Nat) (os : List Nat), ii = .int .i64 (k : Nat) ∧ Hid (k ≤ 16) ∧ Hid (PLn 16 (fun _ => 9223372036854775807) os k) ∧ Hid (IW wx w (ms.map (Value.float .f64)) g os)) (fun ii _ => 16 - (intOf ii).toNat)
    case atStart => exact ⟨0, _, rfl, Lib.hid (by omega), Lib.hid pl_start, hW⟩
    case round =>
      obtain ⟨k, os, rfl, hk, hS, hX⟩ := hrel
      clear hW
      by_cases hlt : k < 16
      · have hki : (k : Int) < 16 := by omega
        have hk0 : (0 : Int) ≤ (k : Int) := by omega
        have HLT := Lib.hid hlt
        have st := store1 hX.out.t (o := k) hlt QR
        clear hlt
        go_wp2_with fail
        refine (c139 _).mono ?_
        rintro e w4 ⟨rfl, rfl⟩
        go_wp2_with fail
        go_roundw
        case rel => exact ⟨k + 1, _, by go_num, Lib.hid (by have := HLT.out; omega), Lib.hid (pl_step hS.out HLT.out rv_qr), Lib.hid (iw_set hX.out k QR)⟩
        case measure => have := HLT.out; simp [intOf]; omega
      · have hki : ¬ (k : Int) < 16 := by omega
        have hk16 : k = 16 := by have := hk.out; omega
        subst hk16
        have hl := hS.out.1
        have RR := Lib.hid hX.out.r
        have E1 := Lib.hid (size80L os hl)
        have E2 := Lib.hid (size80A os hl)
        have T0 := Lib.hid (thereA hX.out.o.t hl)
        have T1 := Lib.hid (thereL hX.out.o.t hl)
        have BB := Lib.hid (below_setCells hX.out.o.b (Nat.le_succ _) 0 (os.map (Value.float .f64)))
        have HS := Lib.hid (pl_MU hS.out)
        clear hlt hk hS hX hl
        go_wp2_with (first
          | (refine wpList_load_mid rfl 80 (.tmp 6) rfl g 0 rfl (os.map (Value.float .f64)) _ RR.out Try.underlying80 rfl E1.out ?_)
          | (refine wpList_store_mid rfl 80 (.tmp 2) (.tmp 28) rfl (w.heap.size + 1) 0 (os.map (Value.float .f64)).toArray rfl rfl T0.out E2.out (one16 os) ?_))
        refine bodyPost_ret (v := .tuple #[.agg (os.map (Value.float .f64)).toArray, .bool false]) (ret_row2 Try.prog Try.results98 rfl (os.map (Value.float .f64)) T1.out Try.underlying80 rfl E1.out) rfl ⟨⟨os, rfl, HS.out⟩, BB.out⟩
  · have hnz : (FloatKind.f64.format.order x 0 == some Ordering.eq) = true := (RV.eq_ HX.out rv0).trans hz
    clear hb hx hW RR hz
    generalize hfx : fin x = fx at *
    have HF := Lib.hid hfx
    clear hfx
    go_wp2_with fail
    refine (c59 x _ HX.out.1).mono ?_
    rintro e w3 ⟨rfl, rfl⟩
    rw [HF.out]
    have W3 := Lib.hid (show IW (w2.alloc (.cells Z16 80)) w (ms.map (Value.float .f64)) w2.heap.size (List.replicate 16 0) from ⟨one_below W2.out (alloc_below _ _), range_new w2 ((List.replicate 16 0).map (Value.float .f64)) 80, there_new w2 Z16 80 16 rfl, W2.out.lt, by simp⟩)
    clear W2
    go_upto_region 5 with fail
    clear hnz
    refine wp_gen (fun wx => Hid (IW wx w (ms.map (Value.float .f64)) w2.heap.size (List.replicate 16 0))) W3 ?_
    intro wa hW
    clear W3
    generalize w2.heap.size = g at *
    go_wp2_with fail
    go_loopw [7] (fun ii wx => ∃ (k : Nat) (os : List Nat), ii = .int .i64 (k : Nat) ∧ Hid (k ≤ 16) ∧ Hid (PLn 16 (fun _ => 9223372036854775807) os k) ∧ Hid (IW wx w (ms.map (Value.float .f64)) g os)) (fun ii _ => 16 - (intOf ii).toNat)
    case atStart => exact ⟨0, _, rfl, Lib.hid (by omega), Lib.hid pl_start, hW⟩
    case round =>
      obtain ⟨k, os, rfl, hk, hS, hX⟩ := hrel
      clear hW
      by_cases hlt : k < 16
      · have hki : (k : Int) < 16 := by omega
        have hk0 : (0 : Int) ≤ (k : Int) := by omega
        have HLT := Lib.hid hlt
        have st := store1 hX.out.t (o := k) hlt QR
        clear hlt
        go_wp2_with fail
        refine (c139 _).mono ?_
        rintro e w4 ⟨rfl, rfl⟩
        go_wp2_with fail
        go_roundw
        case rel => exact ⟨k + 1, _, by go_num, Lib.hid (by have := HLT.out; omega), Lib.hid (pl_step hS.out HLT.out rv_qr), Lib.hid (iw_set hX.out k QR)⟩
        case measure => have := HLT.out; simp [intOf]; omega
      · have hki : ¬ (k : Int) < 16 := by omega
        have hk16 : k = 16 := by have := hk.out; omega
        subst hk16
        have hl := hS.out.1
        have RR := Lib.hid hX.out.r
        have E1 := Lib.hid (size80L os hl)
        have E2 := Lib.hid (size80A os hl)
        have T0 := Lib.hid (thereA hX.out.o.t hl)
        have T1 := Lib.hid (thereL hX.out.o.t hl)
        have BB := Lib.hid (below_setCells hX.out.o.b (Nat.le_succ _) 0 (os.map (Value.float .f64)))
        have HS := Lib.hid (pl_MU hS.out)
        clear hlt hk hS hX hl
        go_wp2_with (first
          | (refine wpList_load_mid rfl 80 (.tmp 6) rfl g 0 rfl (os.map (Value.float .f64)) _ RR.out Try.underlying80 rfl E1.out ?_)
          | (refine wpList_store_mid rfl 80 (.tmp 2) (.tmp 28) rfl (w.heap.size + 1) 0 (os.map (Value.float .f64)).toArray rfl rfl T0.out E2.out (one16 os) ?_))
        refine bodyPost_ret (v := .tuple #[.agg (os.map (Value.float .f64)).toArray, .bool false]) (ret_row2 Try.prog Try.results98 rfl (os.map (Value.float .f64)) T1.out Try.underlying80 rfl E1.out) rfl ⟨⟨os, rfl, HS.out⟩, BB.out⟩
theorem nan_all : MU (nanK 16) ∧ ∀ j, j < 16 → mp (nanK 16) j = 9223372036854775807 := by
  refine ⟨⟨nanK_len 16, fun x hx => ?_⟩, fun j hj => ?_⟩
  · unfold nanK at hx
    obtain ⟨j, hj, rfl⟩ := List.mem_map.1 hx
    rw [if_pos (List.mem_range.1 hj)]
    unfold U QN; decide
  · rcases (by omega : j = 0 ∨ j = 1 ∨ j = 2 ∨ j = 3 ∨ j = 4 ∨ j = 5 ∨ j = 6 ∨ j = 7 ∨ j = 8 ∨ j = 9 ∨ j = 10 ∨ j = 11 ∨ j = 12 ∨ j = 13 ∨ j = 14 ∨ j = 15) with rfl | rfl | rfl | rfl | rfl | rfl | rfl | rfl | rfl | rfl | rfl | rfl | rfl | rfl | rfl | rfl <;> decide
theorem k98 {ms : List Nat} (hm : MU ms) (w : World) : Calls Try.prog 98 #[.agg (ms.map (Value.float .f64)).toArray] w fun e w' => InvR (mp ms) e ∧ Below w.heap.size w w' := by
  cases hok : invOk (detP (mp ms))
  · exact (k98n hm hok w).mono fun e w' ⟨⟨os, he, hu, hj⟩, hb⟩ => ⟨⟨os, by rw [hok]; exact he, hu, fun j h => by rw [hok, if_neg Bool.false_ne_true]; exact hj j h⟩, hb⟩
  · exact (k98y hm hok w).mono fun e w' ⟨⟨os, he, hu, hj⟩, hb⟩ => ⟨⟨os, by rw [hok]; exact he, hu, fun j h => by rw [hok, if_pos rfl]; exact hj j h⟩, hb⟩
theorem inv_nan {ms : List Nat} (hok : invOk (detP (mp ms)) = false) : InvR (mp ms) (.returned (.tuple #[.agg ((nanK 16).map (Value.float .f64)).toArray, .bool false])) :=
  ⟨nanK 16, by rw [hok], nan_all.1, fun j h => by rw [hok, if_neg Bool.false_ne_true]; exact nan_all.2 j h⟩
theorem k97 {ms : List Nat} (hm : MU ms) (w : World) : Calls Try.prog 97 #[.agg (ms.map (Value.float .f64)).toArray] w fun e w' => InvR (mp ms) e ∧ Below w.heap.size w w' := by
  cases hok : invOk (detP (mp ms))
  · have hc : ∀ x, RV x (detP (mp ms)) → pCls x = 0 ∨ pCls x = 3 ∨ pCls x = 4 := fun x hx => (cls_place x hx.1).2 (by rw [hx.2]; exact hok)
    by_cases h3 : pCls (atW (detP (mp ms))) = 3
    · exact (k97c3 hm (fun x hx => (cls_of _ x hx).trans h3) w).mono fun e w' ⟨he, hb⟩ => ⟨by rw [he]; exact inv_nan hok, hb⟩
    · by_cases h4 : pCls (atW (detP (mp ms))) = 4
      · exact (k97c4 hm (fun x hx => (cls_of _ x hx).trans h4) w).mono fun e w' ⟨he, hb⟩ => ⟨by rw [he]; exact inv_nan hok, hb⟩
      · exact (k97z hm (fun x hx => by
          have h := cls_of _ x hx
          rcases hc x hx with c | c | c
          · exact c
          · exact absurd (h.symm.trans c) h3
          · exact absurd (h.symm.trans c) h4) w).mono fun e w' ⟨he, hb⟩ => ⟨by rw [he]; exact inv_nan hok, hb⟩
  · exact (k97y hm (fun x hx => (cls_place x hx.1).1 (by rw [hx.2]; exact hok)) w).mono fun e w' ⟨⟨os, he, hu, hj⟩, hb⟩ => ⟨⟨os, by rw [hok]; exact he, hu, fun j h => by rw [hok, if_pos rfl]; exact hj j h⟩, hb⟩
end Go.Proofs.Ytelalledjbeenaa
