/- Add of whole numbers (printed by gen_lgk.py). -/
import Derived.Test.YtjkifbkehochoaaGreatDoorLgI
namespace Go.Proofs.YtjkifbkehochoaaGreatDoor
open Go.RowKit Fl

theorem xAdd (x y c : Nat) (hc : c ≤ 1) (w : World) : (callFunc 113 #[.int .u64 x, .int .u64 y, .int .u64 c]).run Tryz.prog w = .ok (.value (.tuple #[.int .u64 (((x + y + c) % BB : Nat) : Int), .int .u64 (((x + y + c) / BB : Nat) : Int)])) w := by
  rw [run_callFunc_extern (P := Tryz.prog) (f := 113) (fn := Tryz.f113) (e := add64Entry) (by kernel_rfl) (by kernel_rfl) (by kernel_rfl) (by kernel_rfl) (by kernel_rfl)]
  have : c = 0 ∨ c = 1 := by omega
  rcases this with rfl | rfl <;> rfl
set_option maxRecDepth 100000 in
set_option maxHeartbeats 2000000 in
theorem lAddGE {w : World} {v u : Value} {a b : List Nat} (na : NL w v a) (nb : NL w u b) (hba : b.length ≤ a.length) (hl : a.length ≤ 1000) :
    Calls Tryz.prog 76 #[v, u] w fun e w' => Below w.heap.size w w' ∧ ∃ v', e = .returned v' ∧ NV w' v' (val a + val b) ∧ ∀ g, blk v' = some g → w.heap.size ≤ g := by
  have la2 : (a.length : Int) ≤ 1000 := by omega
  have lb2 : (b.length : Int) ≤ (a.length : Int) := by omega
  have lswap : ¬ (a.length : Int) < (b.length : Int) := by omega
  have HW := Lib.hid na.1
  have HV := Lib.hid nb.1
  have NA' := Lib.hid na
  have NB' := Lib.hid nb
  have V1 := Lib.hid (ad_val na.1 nb.1 (by omega))
  obtain ⟨A, ac, rfl⟩ := na.form
  obtain ⟨B, bc, rfl⟩ := nb.form
  have hmk : ∀ wx : World, (Instr.makeSlice 63 (.int .i64 0) (.int .i64 ((a.length : Int) + 1))).run Tryz.prog wx = .ok (.slice (some ⟨wx.heap.size, 0, none⟩) 0 (a.length + 1)) (wx.alloc (.cells (madeCells #[.int .u64 0] (a.length + 1)) 27)) := fun wx => by
    have := run_mk 0 (a.length + 1) (by omega) (by omega) wx
    push_cast at this
    exact this
  have O0 := Lib.hid (OU.made w (p := 0) (q := a.length + 1) (by omega) (by unfold maxLen; omega) (B := w.heap.size) (Nat.le_refl _))
  have B0 : Hid (Below w.heap.size w (w.alloc (.cells (madeCells #[.int .u64 0] (a.length + 1)) 27))) := Lib.hid ((Below.refl _ _).alloc (Nat.le_refl _) _)
  clear na nb hba hl
  go_enter Tryz.func76, Tryz.ntmps76
  go_upto_region 4 with fail
  generalize w.alloc (.cells (madeCells #[.int .u64 0] (a.length + 1)) 27) = w1 at *
  generalize (Value.slice (some ⟨w.heap.size, 0, none⟩) 0 (a.length + 1)) = v1 at *
  go_wp2_with fail
  go_loopw [5, 6, 24] (fun v lo i wx => ∃ k : Nat, k ≤ a.length ∧ i = .int .i64 k ∧ lo = .int .u64 ((crw (adF a b) 0 k).2 : Nat) ∧ Hid (OU wx w.heap.size v (crw (adF a b) 0 k).1) ∧ Hid (Below w.heap.size w wx)) (fun _ _ i _ => a.length - (intOf i).toNat)
  case atStart => exact ⟨0, Nat.zero_le _, rfl, rfl, O0, B0⟩
  case round =>
    obtain ⟨k, hk, rfl, rfl, hO, hB⟩ := hrel
    by_cases hlt : k < a.length
    · have hki : (k : Int) < (a.length : Int) := by omega
      obtain ⟨b1, o1, c1, e1, q1, q2, hA⟩ := (NA'.out.below hB.out).addr (by omega)
      cases e1
      obtain ⟨x, hx⟩ : ∃ x, a[k]? = some x := ⟨a[k], List.getElem?_eq_getElem hlt⟩
      have kc := hA.2 k x hx
      have hgd : a.getD k 0 = x := by rw [List.getD, hx]; rfl
      have hxB : x < BB := HW.out x (List.mem_of_getElem? hx)
      have hcl := ad_carry HW.out HV.out k
      have HLT := Lib.hid hlt
      have L1 : Hid ((crw (adF a b) 0 k).1.length ≤ 1000000) := Lib.hid (by rw [cr_len]; omega)
      obtain ⟨y, hy⟩ : ∃ y, y = b.getD k 0 := ⟨_, rfl⟩
      have hyB : y < BB := by rw [hy]; exact HV.out.getD k
      have E1 : Hid ((crw (adF a b) 0 (k + 1)).1 = (crw (adF a b) 0 k).1 ++ [(x + y + (crw (adF a b) 0 k).2) % BB]) := Lib.hid (by rw [crw, adF, hgd, hy])
      have E2 : Hid ((crw (adF a b) 0 (k + 1)).2 = (x + y + (crw (adF a b) 0 k).2) / BB) := Lib.hid (by rw [crw, adF, hgd, hy])
      obtain ⟨lo, hlo⟩ : ∃ lo, lo = (crw (adF a b) 0 k).2 := ⟨_, rfl⟩
      rw [← hlo] at hcl E1 E2 ⊢
      have h83 := xAdd x y lo hcl
      obtain ⟨d, hd⟩ : ∃ d, d = (x + y + lo) % BB := ⟨_, rfl⟩
      obtain ⟨c2, hc2⟩ : ∃ c2, c2 = (x + y + lo) / BB := ⟨_, rfl⟩
      rw [← hd, ← hc2] at h83
      rw [← hd] at E1
      rw [← hc2] at E2
      by_cases hkb : k < b.length
      · have hkbi : (k : Int) < (b.length : Int) := by omega
        obtain ⟨b2, o2, c3, e2, q3, q4, hA2⟩ := (NB'.out.below hB.out).addr (by omega)
        cases e2
        have hy2 : b[k]? = some y := by rw [hy, List.getD, List.getElem?_eq_getElem hkb]; rfl
        have ky := hA2.2 k y hy2
        clear hx hgd hcl hlo hlt hd hc2 hA hA2 q1 q2 q3 q4 hy hy2 hkb hxB hyB
        go_wp2_with (at_builtin; refine wpList_app rfl (.tmp 44) (.tmp 46) rfl w.heap.size _ _ _ rfl hO.out rfl L1.out hB.out.size ?_; intro v' w' own' bel' siz'; replace own' := Lib.hid own'; replace bel' := Lib.hid bel'; clear siz')
        go_roundw
        case rel => exact ⟨k + 1, by have := HLT.out; omega, by go_num, by rw [E2.out], Lib.hid (by rw [E1.out]; exact own'.out), Lib.hid (bel'.out w (Nat.le_refl _) hB.out)⟩
        case measure => have := HLT.out; simp [intOf]; omega
      · have hkbi : ¬ (k : Int) < (b.length : Int) := by omega
        have hy0 : y = 0 := by rw [hy, List.getD, List.getElem?_eq_none (by omega)]; rfl
        have h83' : ∀ w : World, (callFunc 113 #[.int .u64 x, .int .u64 0, .int .u64 lo]).run Tryz.prog w = .ok (.value (.tuple #[.int .u64 (d : Int), .int .u64 (c2 : Int)])) w := by
          intro w2
          have := h83 w2
          rw [hy0] at this
          exact this
        clear hx hgd hcl hlo hlt hd hc2 hA q1 q2 hy hy0 hkb h83 hxB hyB
        go_wp2_with (at_builtin; refine wpList_app rfl (.tmp 44) (.tmp 46) rfl w.heap.size _ _ _ rfl hO.out rfl L1.out hB.out.size ?_; intro v' w' own' bel' siz'; replace own' := Lib.hid own'; replace bel' := Lib.hid bel'; clear siz')
        go_roundw
        case rel => exact ⟨k + 1, by have := HLT.out; omega, by go_num, by rw [E2.out], Lib.hid (by rw [E1.out]; exact own'.out), Lib.hid (bel'.out w (Nat.le_refl _) hB.out)⟩
        case measure => have := HLT.out; simp [intOf]; omega
    · have hki : ¬ (k : Int) < (a.length : Int) := by omega
      have hkl : k = a.length := by omega
      subst hkl
      have L1 : Hid ((crw (adF a b) 0 a.length).1.length ≤ 1000000) := Lib.hid (by rw [cr_len]; omega)
      have W1 : Hid (W64 ((crw (adF a b) 0 a.length).1 ++ [(crw (adF a b) 0 a.length).2])) := Lib.hid ((cr_w64 (fun k c => Nat.mod_lt _ BB_pos) _).append fun z hz => by
        rw [List.mem_singleton.1 hz]
        have := ad_carry HW.out HV.out a.length
        unfold BB; omega)
      clear hlt
      go_wp2_with (at_builtin; refine wpList_app rfl (.tmp 49) (.tmp 51) rfl w.heap.size _ _ _ rfl hO.out rfl L1.out hB.out.size ?_; intro v' w' own' bel' siz'; replace own' := Lib.hid own'; replace bel' := Lib.hid bel'; clear siz')
      refine (c82b (own'.out.nl W1.out)).mono ?_
      rintro e w2 ⟨rfl, v2, rfl, hv2, hg2⟩
      have HG2 := Lib.hid (fun g hg => own'.out.blk (hg2 g hg))
      have R2 : Hid (NV w' v2 (val a + val b)) := Lib.hid ⟨_, hv2, tn_can _ (Nat.le_refl _), by rw [tn_val _ (Nat.le_refl _), List.take_length, V1.out]⟩
      clear hv2 hg2
      go_wp2_with fail
      go_ret
      exact ⟨bel'.out w (Nat.le_refl _) hB.out, _, rfl, R2.out, HG2.out⟩
set_option maxRecDepth 100000 in
set_option maxHeartbeats 2000000 in
theorem lAddLT {w : World} {v u : Value} {a b : List Nat} (na : NL w v a) (nb : NL w u b) (hba : b.length < a.length) (hl : a.length ≤ 1000) :
    Calls Tryz.prog 76 #[u, v] w fun e w' => Below w.heap.size w w' ∧ ∃ v', e = .returned v' ∧ NV w' v' (val a + val b) ∧ ∀ g, blk v' = some g → w.heap.size ≤ g := by
  have la2 : (a.length : Int) ≤ 1000 := by omega
  have lb2 : (b.length : Int) ≤ (a.length : Int) := by omega
  have lswap : (b.length : Int) < (a.length : Int) := by omega
  have HW := Lib.hid na.1
  have HV := Lib.hid nb.1
  have NA' := Lib.hid na
  have NB' := Lib.hid nb
  have V1 := Lib.hid (ad_val na.1 nb.1 (by omega))
  obtain ⟨A, ac, rfl⟩ := na.form
  obtain ⟨B, bc, rfl⟩ := nb.form
  have hmk : ∀ wx : World, (Instr.makeSlice 63 (.int .i64 0) (.int .i64 ((a.length : Int) + 1))).run Tryz.prog wx = .ok (.slice (some ⟨wx.heap.size, 0, none⟩) 0 (a.length + 1)) (wx.alloc (.cells (madeCells #[.int .u64 0] (a.length + 1)) 27)) := fun wx => by
    have := run_mk 0 (a.length + 1) (by omega) (by omega) wx
    push_cast at this
    exact this
  have O0 := Lib.hid (OU.made w (p := 0) (q := a.length + 1) (by omega) (by unfold maxLen; omega) (B := w.heap.size) (Nat.le_refl _))
  have B0 : Hid (Below w.heap.size w (w.alloc (.cells (madeCells #[.int .u64 0] (a.length + 1)) 27))) := Lib.hid ((Below.refl _ _).alloc (Nat.le_refl _) _)
  clear na nb hba hl
  go_enter Tryz.func76, Tryz.ntmps76
  go_upto_region 4 with fail
  generalize w.alloc (.cells (madeCells #[.int .u64 0] (a.length + 1)) 27) = w1 at *
  generalize (Value.slice (some ⟨w.heap.size, 0, none⟩) 0 (a.length + 1)) = v1 at *
  go_wp2_with fail
  go_loopw [5, 6, 24] (fun v lo i wx => ∃ k : Nat, k ≤ a.length ∧ i = .int .i64 k ∧ lo = .int .u64 ((crw (adF a b) 0 k).2 : Nat) ∧ Hid (OU wx w.heap.size v (crw (adF a b) 0 k).1) ∧ Hid (Below w.heap.size w wx)) (fun _ _ i _ => a.length - (intOf i).toNat)
  case atStart => exact ⟨0, Nat.zero_le _, rfl, rfl, O0, B0⟩
  case round =>
    obtain ⟨k, hk, rfl, rfl, hO, hB⟩ := hrel
    by_cases hlt : k < a.length
    · have hki : (k : Int) < (a.length : Int) := by omega
      obtain ⟨b1, o1, c1, e1, q1, q2, hA⟩ := (NA'.out.below hB.out).addr (by omega)
      cases e1
      obtain ⟨x, hx⟩ : ∃ x, a[k]? = some x := ⟨a[k], List.getElem?_eq_getElem hlt⟩
      have kc := hA.2 k x hx
      have hgd : a.getD k 0 = x := by rw [List.getD, hx]; rfl
      have hxB : x < BB := HW.out x (List.mem_of_getElem? hx)
      have hcl := ad_carry HW.out HV.out k
      have HLT := Lib.hid hlt
      have L1 : Hid ((crw (adF a b) 0 k).1.length ≤ 1000000) := Lib.hid (by rw [cr_len]; omega)
      obtain ⟨y, hy⟩ : ∃ y, y = b.getD k 0 := ⟨_, rfl⟩
      have hyB : y < BB := by rw [hy]; exact HV.out.getD k
      have E1 : Hid ((crw (adF a b) 0 (k + 1)).1 = (crw (adF a b) 0 k).1 ++ [(x + y + (crw (adF a b) 0 k).2) % BB]) := Lib.hid (by rw [crw, adF, hgd, hy])
      have E2 : Hid ((crw (adF a b) 0 (k + 1)).2 = (x + y + (crw (adF a b) 0 k).2) / BB) := Lib.hid (by rw [crw, adF, hgd, hy])
      obtain ⟨lo, hlo⟩ : ∃ lo, lo = (crw (adF a b) 0 k).2 := ⟨_, rfl⟩
      rw [← hlo] at hcl E1 E2 ⊢
      have h83 := xAdd x y lo hcl
      obtain ⟨d, hd⟩ : ∃ d, d = (x + y + lo) % BB := ⟨_, rfl⟩
      obtain ⟨c2, hc2⟩ : ∃ c2, c2 = (x + y + lo) / BB := ⟨_, rfl⟩
      rw [← hd, ← hc2] at h83
      rw [← hd] at E1
      rw [← hc2] at E2
      by_cases hkb : k < b.length
      · have hkbi : (k : Int) < (b.length : Int) := by omega
        obtain ⟨b2, o2, c3, e2, q3, q4, hA2⟩ := (NB'.out.below hB.out).addr (by omega)
        cases e2
        have hy2 : b[k]? = some y := by rw [hy, List.getD, List.getElem?_eq_getElem hkb]; rfl
        have ky := hA2.2 k y hy2
        clear hx hgd hcl hlo hlt hd hc2 hA hA2 q1 q2 q3 q4 hy hy2 hkb hxB hyB
        go_wp2_with (at_builtin; refine wpList_app rfl (.tmp 44) (.tmp 46) rfl w.heap.size _ _ _ rfl hO.out rfl L1.out hB.out.size ?_; intro v' w' own' bel' siz'; replace own' := Lib.hid own'; replace bel' := Lib.hid bel'; clear siz')
        go_roundw
        case rel => exact ⟨k + 1, by have := HLT.out; omega, by go_num, by rw [E2.out], Lib.hid (by rw [E1.out]; exact own'.out), Lib.hid (bel'.out w (Nat.le_refl _) hB.out)⟩
        case measure => have := HLT.out; simp [intOf]; omega
      · have hkbi : ¬ (k : Int) < (b.length : Int) := by omega
        have hy0 : y = 0 := by rw [hy, List.getD, List.getElem?_eq_none (by omega)]; rfl
        have h83' : ∀ w : World, (callFunc 113 #[.int .u64 x, .int .u64 0, .int .u64 lo]).run Tryz.prog w = .ok (.value (.tuple #[.int .u64 (d : Int), .int .u64 (c2 : Int)])) w := by
          intro w2
          have := h83 w2
          rw [hy0] at this
          exact this
        clear hx hgd hcl hlo hlt hd hc2 hA q1 q2 hy hy0 hkb h83 hxB hyB
        go_wp2_with (at_builtin; refine wpList_app rfl (.tmp 44) (.tmp 46) rfl w.heap.size _ _ _ rfl hO.out rfl L1.out hB.out.size ?_; intro v' w' own' bel' siz'; replace own' := Lib.hid own'; replace bel' := Lib.hid bel'; clear siz')
        go_roundw
        case rel => exact ⟨k + 1, by have := HLT.out; omega, by go_num, by rw [E2.out], Lib.hid (by rw [E1.out]; exact own'.out), Lib.hid (bel'.out w (Nat.le_refl _) hB.out)⟩
        case measure => have := HLT.out; simp [intOf]; omega
    · have hki : ¬ (k : Int) < (a.length : Int) := by omega
      have hkl : k = a.length := by omega
      subst hkl
      have L1 : Hid ((crw (adF a b) 0 a.length).1.length ≤ 1000000) := Lib.hid (by rw [cr_len]; omega)
      have W1 : Hid (W64 ((crw (adF a b) 0 a.length).1 ++ [(crw (adF a b) 0 a.length).2])) := Lib.hid ((cr_w64 (fun k c => Nat.mod_lt _ BB_pos) _).append fun z hz => by
        rw [List.mem_singleton.1 hz]
        have := ad_carry HW.out HV.out a.length
        unfold BB; omega)
      clear hlt
      go_wp2_with (at_builtin; refine wpList_app rfl (.tmp 49) (.tmp 51) rfl w.heap.size _ _ _ rfl hO.out rfl L1.out hB.out.size ?_; intro v' w' own' bel' siz'; replace own' := Lib.hid own'; replace bel' := Lib.hid bel'; clear siz')
      refine (c82b (own'.out.nl W1.out)).mono ?_
      rintro e w2 ⟨rfl, v2, rfl, hv2, hg2⟩
      have HG2 := Lib.hid (fun g hg => own'.out.blk (hg2 g hg))
      have R2 : Hid (NV w' v2 (val a + val b)) := Lib.hid ⟨_, hv2, tn_can _ (Nat.le_refl _), by rw [tn_val _ (Nat.le_refl _), List.take_length, V1.out]⟩
      clear hv2 hg2
      go_wp2_with fail
      go_ret
      exact ⟨bel'.out w (Nat.le_refl _) hB.out, _, rfl, R2.out, HG2.out⟩
theorem lAdd {w : World} {v u : Value} {x y : Nat} (hv : NV w v x) (hu : NV w u y) (hx : blen x ≤ 64000) (hy : blen y ≤ 64000) :
    Calls Tryz.prog 76 #[v, u] w fun e w' => Below w.heap.size w w' ∧ ∃ v', e = .returned v' ∧ NV w' v' (x + y) ∧ ∀ g, blk v' = some g → w.heap.size ≤ g := by
  obtain ⟨a, na, ca, rfl⟩ := hv
  obtain ⟨b, nb, cb, rfl⟩ := hu
  have la := len_small na.1 ca (n := 1000) hx
  have lb := len_small nb.1 cb (n := 1000) hy
  rcases Nat.lt_or_ge a.length b.length with h | h
  · rw [Nat.add_comm]; exact lAddLT nb na h lb
  · exact lAddGE na nb h la
end Go.Proofs.YtjkifbkehochoaaGreatDoor
