/- Invert of a matrix that cannot be undone. -/
import Derived.Test.YtelalledjbeenaaGeoP
import Derived.Test.YtelalledjbeenaaParts
namespace Go.Proofs.Ytelalledjbeenaa
open Go.RowKit Fl

/-- sixteen words, the first k no numbers -/
def nanK (k : Nat) : List Nat := (List.range 16).map fun j => if j < k then QN else 0
theorem nanK_len (k : Nat) : (nanK k).length = 16 := by unfold nanK; rw [List.length_map, List.length_range]
theorem nan0 : nanK 0 = z16 := by decide
theorem nan_step (k : Nat) (h : k < 16) : (nanK k).set k QN = nanK (k + 1) := by
  rcases (by omega : k = 0 ∨ k = 1 ∨ k = 2 ∨ k = 3 ∨ k = 4 ∨ k = 5 ∨ k = 6 ∨ k = 7 ∨ k = 8 ∨ k = 9 ∨ k = 10 ∨ k = 11 ∨ k = 12 ∨ k = 13 ∨ k = 14 ∨ k = 15) with rfl | rfl | rfl | rfl | rfl | rfl | rfl | rfl | rfl | rfl | rfl | rfl | rfl | rfl | rfl | rfl <;> decide
structure NanAt (wx w : World) (g k : Nat) : Prop where
  r : wx.rangeAt g 0 ((nanK k).map (Value.float .f64))
  t : wx.there g 0 16
  t1 : wx.there (w.heap.size + 1) 0 16
  b : Below w.heap.size w wx
  l : w.heap.size + 1 < g
theorem nan_start {w2 w : World} {A : List Value} (h : One w2 w A 16) : NanAt (w2.alloc (.cells Z16 80)) w w2.heap.size 0 := by
  have h1 := one_below h (alloc_below w2 (.cells Z16 80))
  refine ⟨?_, there_new w2 Z16 80 16 rfl, h1.t, h1.b, h.lt⟩
  have := range_new w2 (z16.map (Value.float .f64)) 80
  rwa [← Z16_list, ← nan0] at this
theorem NanAt.step {wx w : World} {g k : Nat} (h : NanAt wx w g k) (hk : k < 16) : NanAt (wx.setCell ⟨g, k, none⟩ (.float .f64 QN)) w g (k + 1) :=
  ⟨by rw [← nan_step k hk]; exact range_set h.r _, there_set h.t _ _, there_set h.t1 _ _, h.b.setCell (by have := h.l; simp; omega) _, h.l⟩
set_option maxRecDepth 100000 in
set_option maxHeartbeats 2000000 in
/-- the determinant's class is zero -/
theorem k97z {ms : List Nat} (hm : MU ms) (hz : ∀ x, RV x (detP (mp ms)) → pCls x = 0) (w : World) :
    Calls Try.prog 97 #[.agg (ms.map (Value.float .f64)).toArray] w fun e w' => e = .returned (.tuple #[.agg ((nanK 16).map (Value.float .f64)).toArray, .bool false]) ∧ Below w.heap.size w w' := by
  have HM := Lib.hid hm
  have HZ := Lib.hid hz
  clear hm hz
  go_enter Try.func97, Try.ntmps97
  go_upto_region 1 with fail
  refine wp_gen (fun wx => Hid (One wx w (ms.map (Value.float .f64)) 16)) (Lib.hid (one_entry w (ms.map (Value.float .f64)) _ 80 80 16 rfl)) ?_
  intro wc hW
  have RR := Lib.hid hW.out.r1
  have E0 := Lib.hid (size80L ms HM.out.1)
  go_wp2_with (refine wpList_load_mid rfl 80 (.tmp 1) rfl w.heap.size 0 rfl (ms.map (Value.float .f64)) _ RR.out Try.underlying80 rfl E0.out ?_)
  refine (k103 HM.out _).mono ?_
  rintro e w2 ⟨⟨x, rfl, hx⟩, hb⟩
  have W2 := Lib.hid (one_below hW.out hb)
  have HX := Lib.hid hx
  clear hb hx hW RR
  go_wp2_with fail
  refine (c30 x _ HX.out.1).mono ?_
  rintro e w3 ⟨rfl, hb⟩
  unfold partsV
  rw [HZ.out x HX.out]
  generalize pNeg x = pn
  generalize pMant x = pm
  generalize pExp x = pe
  have hfd : ∀ w : World, (Instr.field 36 (.agg #[.bool pn, .int .i64 0, .int .u64 (pm : Nat), .int .i64 pe]) 1).run Try.prog w = .ok (.int .i64 0) w := fun _ => by kernel_rfl
  have W3 := Lib.hid (nan_start (one_below W2.out hb))
  clear hb W2
  go_upto_region 5 with fail
  clear hfd
  refine wp_gen (fun wx => Hid (NanAt wx w w3.heap.size 0)) W3 ?_
  intro wd hW
  clear W3
  generalize w3.heap.size = g at *
  go_wp2_with fail
  go_loopw [29] (fun i wx => ∃ k : Nat, k ≤ 16 ∧ i = .int .i64 k ∧ Hid (NanAt wx w g k)) (fun i _ => 16 - (intOf i).toNat)
  case atStart => exact ⟨0, by omega, rfl, hW⟩
  case round =>
    obtain ⟨k, hk, rfl, hI⟩ := hrel
    clear hW
    by_cases hlt : k < 16
    · have hki : (k : Int) < 16 := by omega
      have hk0 : (0 : Int) ≤ (k : Int) := by omega
      have HLT := Lib.hid hlt
      have st := store1 hI.out.t (o := k) hlt QN
      have I2 := Lib.hid (hI.out.step hlt)
      clear hlt
      go_wp2_with fail
      refine (c135 _).mono ?_
      rintro e w4 ⟨rfl, rfl⟩
      go_wp2_with fail
      go_roundw
      case rel => exact ⟨k + 1, by have := HLT.out; omega, by go_num, I2⟩
      case measure => have := HLT.out; simp [intOf]; omega
    · have hki : ¬ (k : Int) < 16 := by omega
      have hk16 : k = 16 := by omega
      subst hk16
      have RR := Lib.hid hI.out.r
      have E1 := Lib.hid (size80L (nanK 16) (nanK_len 16))
      have E2 := Lib.hid (size80A (nanK 16) (nanK_len 16))
      have T0 := Lib.hid (thereA hI.out.t1 (nanK_len 16))
      have T1 := Lib.hid (thereL hI.out.t1 (nanK_len 16))
      have BB := Lib.hid (below_setCells hI.out.b (Nat.le_succ _) 0 ((nanK 16).map (Value.float .f64)))
      clear hlt hk hI
      go_wp2_with (first
        | (refine wpList_load_mid rfl 80 (.tmp 6) rfl g 0 rfl ((nanK 16).map (Value.float .f64)) _ RR.out Try.underlying80 rfl E1.out ?_)
        | (refine wpList_store_mid rfl 80 (.tmp 2) (.tmp 36) rfl (w.heap.size + 1) 0 ((nanK 16).map (Value.float .f64)).toArray rfl rfl T0.out E2.out (one16 (nanK 16)) ?_))
      refine bodyPost_ret (v := .tuple #[.agg ((nanK 16).map (Value.float .f64)).toArray, .bool false]) (ret_row2 Try.prog Try.results97 rfl ((nanK 16).map (Value.float .f64)) T1.out Try.underlying80 rfl E1.out) rfl ⟨rfl, BB.out⟩
end Go.Proofs.Ytelalledjbeenaa
