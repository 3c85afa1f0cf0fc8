/- Add of whole numbers (printed by gen_lgk.py). math/bits.Mul64. Times of whole numbers. -/
import Derived.Test.YtjkifbkehochoaaGreatDoorMgLgH
namespace Go.Proofs.YtjkifbkehochoaaGreatDoor
open Go.RowKit Fl

theorem xAdd (x y c : Nat) (hc : c ≤ 1) (w : World) : (callFunc 113 #[.int .u64 x, .int .u64 y, .int .u64 c]).run Tryz.prog w = .ok (.value (.tuple #[.int .u64 (((x + y + c) % BB : Nat) : Int), .int .u64 (((x + y + c) / BB : Nat) : Int)])) w := by
  rw [run_callFunc_extern (P := Tryz.prog) (f := 113) (fn := Tryz.f113) (e := add64Entry) (by kernel_rfl) (by kernel_rfl) (by kernel_rfl) (by kernel_rfl) (by kernel_rfl)]
  have : c = 0 ∨ c = 1 := by omega
  rcases this with rfl | rfl <;> rfl
set_option maxRecDepth 100000 in
set_option maxHeartbeats 2000000 in
theorem lAddGE {w : World} {v u : Value} {a b : List Nat} (na : NL w v a) (nb : NL w u b) (hba : b.length ≤ a.length) (hl : a.length ≤ 1000) :
    Calls Tryz.prog 76 #[v, u] w fun e w' => Below w.heap.size w w' ∧ ∃ v', e = .returned v' ∧ NV w' v' (val a + val b) ∧ ∀ g, blk v' = some g → w.heap.size ≤ g := by
  have la2 : (a.length : Int) ≤ 1000 := by omega
  have lb2 : (b.length : Int) ≤ (a.length : Int) := by omega
  have lswap : ¬ (a.length : Int) < (b.length : Int) := by omega
  have HW := Lib.hid na.1
  have HV := Lib.hid nb.1
  have NA' := Lib.hid na
  have NB' := Lib.hid nb
  have V1 := Lib.hid (ad_val na.1 nb.1 (by omega))
  obtain ⟨A, ac, rfl⟩ := na.form
  obtain ⟨B, bc, rfl⟩ := nb.form
  have hmk : ∀ wx : World, (Instr.makeSlice 63 (.int .i64 0) (.int .i64 ((a.length : Int) + 1))).run Tryz.prog wx = .ok (.slice (some ⟨wx.heap.size, 0, none⟩) 0 (a.length + 1)) (wx.alloc (.cells (madeCells #[.int .u64 0] (a.length + 1)) 27)) := fun wx => by
    have := run_mk 0 (a.length + 1) (by omega) (by omega) wx
    push_cast at this
    exact this
  have O0 := Lib.hid (OU.made w (p := 0) (q := a.length + 1) (by omega) (by unfold maxLen; omega) (B := w.heap.size) (Nat.le_refl _))
  have B0 : Hid (Below w.heap.size w (w.alloc (.cells (madeCells #[.int .u64 0] (a.length + 1)) 27))) := Lib.hid ((Below.refl _ _).alloc (Nat.le_refl _) _)
  clear na nb hba hl
  go_enter Tryz.func76, Tryz.ntmps76
  go_upto_region 4 with fail
  generalize w.alloc (.cells (madeCells #[.int .u64 0] (a.length + 1)) 27) = w1 at *
  generalize (Value.slice (some ⟨w.heap.size, 0, none⟩) 0 (a.length + 1)) = v1 at *
  go_wp2_with fail
  go_loopw [5, 6, 24] (fun v lo i wx => ∃ k : Nat, k ≤ a.length ∧ i = .int .i64 k ∧ lo = .int .u64 ((crw (adF a b) 0 k).2 : Nat) ∧ Hid (OU wx w.heap.size v (crw (adF a b) 0 k).1) ∧ Hid (Below w.heap.size w wx)) (fun _ _ i _ => a.length - (intOf i).toNat)
  case atStart => exact ⟨0, Nat.zero_le _, rfl, rfl, O0, B0⟩
  case round =>
    obtain ⟨k, hk, rfl, rfl, hO, hB⟩ := hrel
    by_cases hlt : k < a.length
    · have hki : (k : Int) < (a.length : Int) := by omega
      obtain ⟨b1, o1, c1, e1, q1, q2, hA⟩ := (NA'.out.below hB.out).addr (by omega)
      cases e1
      obtain ⟨x, hx⟩ : ∃ x, a[k]? = some x := ⟨a[k], List.getElem?_eq_getElem hlt⟩
      have kc := hA.2 k x hx
      have hgd : a.getD k 0 = x := by rw [List.getD, hx]; rfl
      have hxB : x < BB := HW.out x (List.mem_of_getElem? hx)
      have hcl := ad_carry HW.out HV.out k
      have HLT := Lib.hid hlt
      have L1 : Hid ((crw (adF a b) 0 k).1.length ≤ 1000000) := Lib.hid (by rw [cr_len]; omega)
      obtain ⟨y, hy⟩ : ∃ y, y = b.getD k 0 := ⟨_, rfl⟩
      have hyB : y < BB := by rw [hy]; exact HV.out.getD k
      have E1 : Hid ((crw (adF a b) 0 (k + 1)).1 = (crw (adF a b) 0 k).1 ++ [(x + y + (crw (adF a b) 0 k).2) % BB]) := Lib.hid (by rw [crw, adF, hgd, hy])
      have E2 : Hid ((crw (adF a b) 0 (k + 1)).2 = (x + y + (crw (adF a b) 0 k).2) / BB) := Lib.hid (by rw [crw, adF, hgd, hy])
      obtain ⟨lo, hlo⟩ : ∃ lo, lo = (crw (adF a b) 0 k).2 := ⟨_, rfl⟩
      rw [← hlo] at hcl E1 E2 ⊢
      have h83 := xAdd x y lo hcl
      obtain ⟨d, hd⟩ : ∃ d, d = (x + y + lo) % BB := ⟨_, rfl⟩
      obtain ⟨c2, hc2⟩ : ∃ c2, c2 = (x + y + lo) / BB := ⟨_, rfl⟩
      rw [← hd, ← hc2] at h83
      rw [← hd] at E1
      rw [← hc2] at E2
      by_cases hkb : k < b.length
      · have hkbi : (k : Int) < (b.length : Int) := by omega
        obtain ⟨b2, o2, c3, e2, q3, q4, hA2⟩ := (NB'.out.below hB.out).addr (by omega)
        cases e2
        have hy2 : b[k]? = some y := by rw [hy, List.getD, List.getElem?_eq_getElem hkb]; rfl
        have ky := hA2.2 k y hy2
        clear hx hgd hcl hlo hlt hd hc2 hA hA2 q1 q2 q3 q4 hy hy2 hkb hxB hyB
        go_wp2_with (at_builtin; refine wpList_app rfl (.tmp 44) (.tmp 46) rfl w.heap.size _ _ _ rfl hO.out rfl L1.out hB.out.size ?_; intro v' w' own' bel' siz'; replace own' := Lib.hid own'; replace bel' := Lib.hid bel'; clear siz')
        go_roundw
        case rel => exact ⟨k + 1, by have := HLT.out; omega, by go_num, by rw [E2.out], Lib.hid (by rw [E1.out]; exact own'.out), Lib.hid (bel'.out w (Nat.le_refl _) hB.out)⟩
        case measure => have := HLT.out; simp [intOf]; omega
      · have hkbi : ¬ (k : Int) < (b.length : Int) := by omega
        have hy0 : y = 0 := by rw [hy, List.getD, List.getElem?_eq_none (by omega)]; rfl
        have h83' : ∀ w : World, (callFunc 113 #[.int .u64 x, .int .u64 0, .int .u64 lo]).run Tryz.prog w = .ok (.value (.tuple #[.int .u64 (d : Int), .int .u64 (c2 : Int)])) w := by
          intro w2
          have := h83 w2
          rw [hy0] at this
          exact this
        clear hx hgd hcl hlo hlt hd hc2 hA q1 q2 hy hy0 hkb h83 hxB hyB
        go_wp2_with (at_builtin; refine wpList_app rfl (.tmp 44) (.tmp 46) rfl w.heap.size _ _ _ rfl hO.out rfl L1.out hB.out.size ?_; intro v' w' own' bel' siz'; replace own' := Lib.hid own'; replace bel' := Lib.hid bel'; clear siz')
        go_roundw
        case rel => exact ⟨k + 1, by have := HLT.out; omega, by go_num, by rw [E2.out], Lib.hid (by rw [E1.out]; exact own'.out), Lib.hid (bel'.out w (Nat.le_refl _) hB.out)⟩
        case measure => have := HLT.out; simp [intOf]; omega
    · have hki : ¬ (k : Int) < (a.length : Int) := by omega
      have hkl : k = a.length := by omega
      subst hkl
      have L1 : Hid ((crw (adF a b) 0 a.length).1.length ≤ 1000000) := Lib.hid (by rw [cr_len]; omega)
      have W1 : Hid (W64 ((crw (adF a b) 0 a.length).1 ++ [(crw (adF a b) 0 a.length).2])) := Lib.hid ((cr_w64 (fun k c => Nat.mod_lt _ BB_pos) _).append fun z hz => by
        rw [List.mem_singleton.1 hz]
        have := ad_carry HW.out HV.out a.length
        unfold BB; omega)
      clear hlt
      go_wp2_with (at_builtin; refine wpList_app rfl (.tmp 49) (.tmp 51) rfl w.heap.size _ _ _ rfl hO.out rfl L1.out hB.out.size ?_; intro v' w' own' bel' siz'; replace own' := Lib.hid own'; replace bel' := Lib.hid bel'; clear siz')
      refine (c82b (own'.out.nl W1.out)).mono ?_
      rintro e w2 ⟨rfl, v2, rfl, hv2, hg2⟩
      have HG2 := Lib.hid (fun g hg => own'.out.blk (hg2 g hg))
      have R2 : Hid (NV w' v2 (val a + val b)) := Lib.hid ⟨_, hv2, tn_can _ (Nat.le_refl _), by rw [tn_val _ (Nat.le_refl _), List.take_length, V1.out]⟩
      clear hv2 hg2
      go_wp2_with fail
      go_ret
      exact ⟨bel'.out w (Nat.le_refl _) hB.out, _, rfl, R2.out, HG2.out⟩
set_option maxRecDepth 100000 in
set_option maxHeartbeats 2000000 in
theorem lAddLT {w : World} {v u : Value} {a b : List Nat} (na : NL w v a) (nb : NL w u b) (hba : b.length < a.length) (hl : a.length ≤ 1000) :
    Calls Tryz.prog 76 #[u, v] w fun e w' => Below w.heap.size w w' ∧ ∃ v', e = .returned v' ∧ NV w' v' (val a + val b) ∧ ∀ g, blk v' = some g → w.heap.size ≤ g := by
  have la2 : (a.length : Int) ≤ 1000 := by omega
  have lb2 : (b.length : Int) ≤ (a.length : Int) := by omega
  have lswap : (b.length : Int) < (a.length : Int) := by omega
  have HW := Lib.hid na.1
  have HV := Lib.hid nb.1
  have NA' := Lib.hid na
  have NB' := Lib.hid nb
  have V1 := Lib.hid (ad_val na.1 nb.1 (by omega))
  obtain ⟨A, ac, rfl⟩ := na.form
  obtain ⟨B, bc, rfl⟩ := nb.form
  have hmk : ∀ wx : World, (Instr.makeSlice 63 (.int .i64 0) (.int .i64 ((a.length : Int) + 1))).run Tryz.prog wx = .ok (.slice (some ⟨wx.heap.size, 0, none⟩) 0 (a.length + 1)) (wx.alloc (.cells (madeCells #[.int .u64 0] (a.length + 1)) 27)) := fun wx => by
    have := run_mk 0 (a.length + 1) (by omega) (by omega) wx
    push_cast at this
    exact this
  have O0 := Lib.hid (OU.made w (p := 0) (q := a.length + 1) (by omega) (by unfold maxLen; omega) (B := w.heap.size) (Nat.le_refl _))
  have B0 : Hid (Below w.heap.size w (w.alloc (.cells (madeCells #[.int .u64 0] (a.length + 1)) 27))) := Lib.hid ((Below.refl _ _).alloc (Nat.le_refl _) _)
  clear na nb hba hl
  go_enter Tryz.func76, Tryz.ntmps76
  go_upto_region 4 with fail
  generalize w.alloc (.cells (madeCells #[.int .u64 0] (a.length + 1)) 27) = w1 at *
  generalize (Value.slice (some ⟨w.heap.size, 0, none⟩) 0 (a.length + 1)) = v1 at *
  go_wp2_with fail
  go_loopw [5, 6, 24] (fun v lo i wx => ∃ k : Nat, k ≤ a.length ∧ i = .int .i64 k ∧ lo = .int .u64 ((crw (adF a b) 0 k).2 : Nat) ∧ Hid (OU wx w.heap.size v (crw (adF a b) 0 k).1) ∧ Hid (Below w.heap.size w wx)) (fun _ _ i _ => a.length - (intOf i).toNat)
  case atStart => exact ⟨0, Nat.zero_le _, rfl, rfl, O0, B0⟩
  case round =>
    obtain ⟨k, hk, rfl, rfl, hO, hB⟩ := hrel
    by_cases hlt : k < a.length
    · have hki : (k : Int) < (a.length : Int) := by omega
      obtain ⟨b1, o1, c1, e1, q1, q2, hA⟩ := (NA'.out.below hB.out).addr (by omega)
      cases e1
      obtain ⟨x, hx⟩ : ∃ x, a[k]? = some x := ⟨a[k], List.getElem?_eq_getElem hlt⟩
      have kc := hA.2 k x hx
      have hgd : a.getD k 0 = x := by rw [List.getD, hx]; rfl
      have hxB : x < BB := HW.out x (List.mem_of_getElem? hx)
      have hcl := ad_carry HW.out HV.out k
      have HLT := Lib.hid hlt
      have L1 : Hid ((crw (adF a b) 0 k).1.length ≤ 1000000) := Lib.hid (by rw [cr_len]; omega)
      obtain ⟨y, hy⟩ : ∃ y, y = b.getD k 0 := ⟨_, rfl⟩
      have hyB : y < BB := by rw [hy]; exact HV.out.getD k
      have E1 : Hid ((crw (adF a b) 0 (k + 1)).1 = (crw (adF a b) 0 k).1 ++ [(x + y + (crw (adF a b) 0 k).2) % BB]) := Lib.hid (by rw [crw, adF, hgd, hy])
      have E2 : Hid ((crw (adF a b) 0 (k + 1)).2 = (x + y + (crw (adF a b) 0 k).2) / BB) := Lib.hid (by rw [crw, adF, hgd, hy])
      obtain ⟨lo, hlo⟩ : ∃ lo, lo = (crw (adF a b) 0 k).2 := ⟨_, rfl⟩
      rw [← hlo] at hcl E1 E2 ⊢
      have h83 := xAdd x y lo hcl
      obtain ⟨d, hd⟩ : ∃ d, d = (x + y + lo) % BB := ⟨_, rfl⟩
      obtain ⟨c2, hc2⟩ : ∃ c2, c2 = (x + y + lo) / BB := ⟨_, rfl⟩
      rw [← hd, ← hc2] at h83
      rw [← hd] at E1
      rw [← hc2] at E2
      by_cases hkb : k < b.length
      · have hkbi : (k : Int) < (b.length : Int) := by omega
        obtain ⟨b2, o2, c3, e2, q3, q4, hA2⟩ := (NB'.out.below hB.out).addr (by omega)
        cases e2
        have hy2 : b[k]? = some y := by rw [hy, List.getD, List.getElem?_eq_getElem hkb]; rfl
        have ky := hA2.2 k y hy2
        clear hx hgd hcl hlo hlt hd hc2 hA hA2 q1 q2 q3 q4 hy hy2 hkb hxB hyB
        go_wp2_with (at_builtin; refine wpList_app rfl (.tmp 44) (.tmp 46) rfl w.heap.size _ _ _ rfl hO.out rfl L1.out hB.out.size ?_; intro v' w' own' bel' siz'; replace own' := Lib.hid own'; replace bel' := Lib.hid bel'; clear siz')
        go_roundw
        case rel => exact ⟨k + 1, by have := HLT.out; omega, by go_num, by rw [E2.out], Lib.hid (by rw [E1.out]; exact own'.out), Lib.hid (bel'.out w (Nat.le_refl _) hB.out)⟩
        case measure => have := HLT.out; simp [intOf]; omega
      · have hkbi : ¬ (k : Int) < (b.length : Int) := by omega
        have hy0 : y = 0 := by rw [hy, List.getD, List.getElem?_eq_none (by omega)]; rfl
        have h83' : ∀ w : World, (callFunc 113 #[.int .u64 x, .int .u64 0, .int .u64 lo]).run Tryz.prog w = .ok (.value (.tuple #[.int .u64 (d : Int), .int .u64 (c2 : Int)])) w := by
          intro w2
          have := h83 w2
          rw [hy0] at this
          exact this
        clear hx hgd hcl hlo hlt hd hc2 hA q1 q2 hy hy0 hkb h83 hxB hyB
        go_wp2_with (at_builtin; refine wpList_app rfl (.tmp 44) (.tmp 46) rfl w.heap.size _ _ _ rfl hO.out rfl L1.out hB.out.size ?_; intro v' w' own' bel' siz'; replace own' := Lib.hid own'; replace bel' := Lib.hid bel'; clear siz')
        go_roundw
        case rel => exact ⟨k + 1, by have := HLT.out; omega, by go_num, by rw [E2.out], Lib.hid (by rw [E1.out]; exact own'.out), Lib.hid (bel'.out w (Nat.le_refl _) hB.out)⟩
        case measure => have := HLT.out; simp [intOf]; omega
    · have hki : ¬ (k : Int) < (a.length : Int) := by omega
      have hkl : k = a.length := by omega
      subst hkl
      have L1 : Hid ((crw (adF a b) 0 a.length).1.length ≤ 1000000) := Lib.hid (by rw [cr_len]; omega)
      have W1 : Hid (W64 ((crw (adF a b) 0 a.length).1 ++ [(crw (adF a b) 0 a.length).2])) := Lib.hid ((cr_w64 (fun k c => Nat.mod_lt _ BB_pos) _).append fun z hz => by
        rw [List.mem_singleton.1 hz]
        have := ad_carry HW.out HV.out a.length
        unfold BB; omega)
      clear hlt
      go_wp2_with (at_builtin; refine wpList_app rfl (.tmp 49) (.tmp 51) rfl w.heap.size _ _ _ rfl hO.out rfl L1.out hB.out.size ?_; intro v' w' own' bel' siz'; replace own' := Lib.hid own'; replace bel' := Lib.hid bel'; clear siz')
      refine (c82b (own'.out.nl W1.out)).mono ?_
      rintro e w2 ⟨rfl, v2, rfl, hv2, hg2⟩
      have HG2 := Lib.hid (fun g hg => own'.out.blk (hg2 g hg))
      have R2 : Hid (NV w' v2 (val a + val b)) := Lib.hid ⟨_, hv2, tn_can _ (Nat.le_refl _), by rw [tn_val _ (Nat.le_refl _), List.take_length, V1.out]⟩
      clear hv2 hg2
      go_wp2_with fail
      go_ret
      exact ⟨bel'.out w (Nat.le_refl _) hB.out, _, rfl, R2.out, HG2.out⟩
theorem lAdd {w : World} {v u : Value} {x y : Nat} (hv : NV w v x) (hu : NV w u y) (hx : blen x ≤ 64000) (hy : blen y ≤ 64000) :
    Calls Tryz.prog 76 #[v, u] w fun e w' => Below w.heap.size w w' ∧ ∃ v', e = .returned v' ∧ NV w' v' (x + y) ∧ ∀ g, blk v' = some g → w.heap.size ≤ g := by
  obtain ⟨a, na, ca, rfl⟩ := hv
  obtain ⟨b, nb, cb, rfl⟩ := hu
  have la := len_small na.1 ca (n := 1000) hx
  have lb := len_small nb.1 cb (n := 1000) hy
  rcases Nat.lt_or_ge a.length b.length with h | h
  · rw [Nat.add_comm]; exact lAddLT nb na h lb
  · exact lAddGE na nb h la
end Go.Proofs.YtjkifbkehochoaaGreatDoor

namespace Go.Proofs.YtjkifbkehochoaaGreatDoor
open Go.RowKit Fl

theorem part_le {a b : Nat} (ha : a < 4294967296) (hb : b < 4294967296) : a * b ≤ 18446744065119617025 := by
  have := Nat.mul_le_mul (show a ≤ 4294967295 by omega) (show b ≤ 4294967295 by omega)
  omega
theorem wrap_part {a b p : Nat} (h : p = a * b) (hp : p ≤ 18446744065119617025) : IntKind.u64.wrap ((a : Int) * (b : Int)) = (p : Int) := by
  rw [show ((a : Int) * (b : Int)) = ((a * b : Nat) : Int) from by push_cast; rfl, ← h, u64_wrap, Nat.mod_eq_of_lt (by unfold BB; omega)]
theorem and32 (n : Nat) (h : n < BB) : bits .and .u64 (n : Int) 4294967295 = ((n % 4294967296 : Nat) : Int) := by
  rw [show (4294967295 : Int) = ((4294967295 : Nat) : Int) from rfl, u64_and_nat _ _ h (by decide)]
  congr 1
  exact Nat.and_two_pow_sub_one_eq_mod n 32
theorem mul_parts (x1 x0 y1 y0 : Nat) : (x1 * 4294967296 + x0) * (y1 * 4294967296 + y0) = x1 * y1 * 18446744073709551616 + (x1 * y0 + x0 * y1) * 4294967296 + x0 * y0 := by
  have e : (18446744073709551616 : Nat) = 4294967296 * 4294967296 := by decide
  rw [e]
  generalize 4294967296 = B
  grind
set_option maxRecDepth 100000 in
set_option maxHeartbeats 1000000 in
theorem lMul64 (x y : Nat) (w : World) (hx : x < BB) (hy : y < BB) : Calls Tryz.prog 100 #[.int .u64 x, .int .u64 y] w fun e w' => e = .returned (.tuple #[.int .u64 ((x * y / BB : Nat) : Int), .int .u64 ((x * y % BB : Nat) : Int)]) ∧ w = w' := by
  have a1 := and32 x hx
  have a2 := and32 y hy
  have d1 : (x : Int) / 4294967296 = ((x / 4294967296 : Nat) : Int) := by omega
  have d2 : (y : Int) / 4294967296 = ((y / 4294967296 : Nat) : Int) := by omega
  have hl : IntKind.u64.wrap ((x : Int) * (y : Int)) = ((x * y % BB : Nat) : Int) := by
    rw [show ((x : Int) * (y : Int)) = ((x * y : Nat) : Int) from by push_cast; rfl, u64_wrap]
  have MP := mul_parts (x / 4294967296) (x % 4294967296) (y / 4294967296) (y % 4294967296)
  rw [show x / 4294967296 * 4294967296 + x % 4294967296 = x by omega, show y / 4294967296 * 4294967296 + y % 4294967296 = y by omega] at MP
  have b1 : x / 4294967296 < 4294967296 := by unfold BB at hx; omega
  have b2 : x % 4294967296 < 4294967296 := Nat.mod_lt _ (by decide)
  have b3 : y / 4294967296 < 4294967296 := by unfold BB at hy; omega
  have b4 : y % 4294967296 < 4294967296 := Nat.mod_lt _ (by decide)
  generalize x / 4294967296 = x1 at *
  generalize x % 4294967296 = x0 at *
  generalize y / 4294967296 = y1 at *
  generalize y % 4294967296 = y0 at *
  obtain ⟨p11, h11⟩ : ∃ p, p = x1 * y1 := ⟨_, rfl⟩
  obtain ⟨p10, h10⟩ : ∃ p, p = x1 * y0 := ⟨_, rfl⟩
  obtain ⟨p01, h01⟩ : ∃ p, p = x0 * y1 := ⟨_, rfl⟩
  obtain ⟨p00, h00⟩ : ∃ p, p = x0 * y0 := ⟨_, rfl⟩
  have l11 : p11 ≤ 18446744065119617025 := h11 ▸ part_le b1 b3
  have l10 : p10 ≤ 18446744065119617025 := h10 ▸ part_le b1 b4
  have l01 : p01 ≤ 18446744065119617025 := h01 ▸ part_le b2 b3
  have l00 : p00 ≤ 18446744065119617025 := h00 ▸ part_le b2 b4
  have w11 := wrap_part h11 l11
  have w10 := wrap_part h10 l10
  have w01 := wrap_part h01 l01
  have w00 := wrap_part h00 l00
  rw [← h11, ← h10, ← h01, ← h00] at MP
  obtain ⟨t, ht⟩ : ∃ t, t = p10 + p00 / 4294967296 := ⟨_, rfl⟩
  have et : (p10 : Int) + (p00 : Int) / 4294967296 = (t : Int) := by omega
  have lt1 : t < BB := by unfold BB; omega
  have a3 := and32 t lt1
  obtain ⟨t0, ht0⟩ : ∃ u, u = t % 4294967296 := ⟨_, rfl⟩
  rw [← ht0] at a3
  have lt2 : (t : Int) ≤ 18446744073709551615 := by unfold BB at lt1; omega
  have lt3 : (t0 : Int) ≤ 4294967295 := by omega
  have i1 : (p11 : Int) ≤ 18446744065119617025 := by omega
  have i2 : (p10 : Int) ≤ 18446744065119617025 := by omega
  have i3 : (p01 : Int) ≤ 18446744065119617025 := by omega
  have i4 : (p00 : Int) ≤ 18446744065119617025 := by omega
  have HI : Hid ((p11 : Int) + (t : Int) / 4294967296 + ((t0 : Int) + (p01 : Int)) / 4294967296 = ((x * y / BB : Nat) : Int)) := Lib.hid (by rw [MP]; unfold BB; omega)
  clear MP h11 h10 h01 h00 l11 l10 l01 l00 b1 b2 b3 b4 hx hy ht ht0 lt1
  generalize x * y / BB = hi at *
  generalize x * y % BB = lo at *
  go_enter Tryz.func100, Tryz.ntmps100
  go_wp2
  rw [HI.out]
  go_ret2
  exact ⟨rfl, rfl⟩
end Go.Proofs.YtjkifbkehochoaaGreatDoor

namespace Go.Proofs.YtjkifbkehochoaaGreatDoor
open Go.RowKit Fl

theorem mul_small {x m : Nat} (hx : x < BB) (hm : m < BB) : x * m + BB ≤ BB * BB := by
  have h1 : x * m ≤ (BB - 1) * BB := Nat.mul_le_mul (by omega) (Nat.le_of_lt hm)
  rw [Nat.sub_mul, Nat.one_mul] at h1
  have h2 : BB ≤ BB * BB := by decide
  omega
theorem times_step (p lo : Nat) (hlo : lo < BB) (hp : p + BB ≤ BB * BB) : (p % BB + lo) % BB = (p + lo) % BB ∧ (p / BB + (p % BB + lo) / BB) % BB = (p + lo) / BB := by
  unfold BB at *
  omega
set_option maxRecDepth 100000 in
set_option maxHeartbeats 2000000 in
theorem lTimesL {w : World} {v : Value} {a : List Nat} {m c0 : Nat} (na : NL w v a) (hm : m < BB) (hc0 : c0 < BB) (hl : a.length ≤ 1000) :
    Calls Tryz.prog 77 #[v, .int .u64 m, .int .u64 c0] w fun e w' => Below w.heap.size w w' ∧ ∃ v', e = .returned v' ∧ NV w' v' (val a * m + c0) ∧ ∀ g, blk v' = some g → w.heap.size ≤ g := by
  have la2 : (a.length : Int) ≤ 1000 := by omega
  have HW := Lib.hid na.1
  have HV := Lib.hid (And.intro hm hc0)
  have NA' := Lib.hid na
  have V1 := Lib.hid (tm_val (a := a) (m := m) (c0 := c0))
  obtain ⟨A, ac, rfl⟩ := na.form
  have hmk : ∀ wx : World, (Instr.makeSlice 63 (.int .i64 0) (.int .i64 ((a.length : Int) + 1))).run Tryz.prog wx = .ok (.slice (some ⟨wx.heap.size, 0, none⟩) 0 (a.length + 1)) (wx.alloc (.cells (madeCells #[.int .u64 0] (a.length + 1)) 27)) := fun wx => by
    have := run_mk 0 (a.length + 1) (by omega) (by omega) wx
    push_cast at this
    exact this
  have O0 := Lib.hid (OU.made w (p := 0) (q := a.length + 1) (by omega) (by unfold maxLen; omega) (B := w.heap.size) (Nat.le_refl _))
  have B0 : Hid (Below w.heap.size w (w.alloc (.cells (madeCells #[.int .u64 0] (a.length + 1)) 27))) := Lib.hid ((Below.refl _ _).alloc (Nat.le_refl _) _)
  clear na hm hc0 hl
  go_enter Tryz.func77, Tryz.ntmps77
  go_upto_region 2 with fail
  generalize w.alloc (.cells (madeCells #[.int .u64 0] (a.length + 1)) 27) = w1 at *
  generalize (Value.slice (some ⟨w.heap.size, 0, none⟩) 0 (a.length + 1)) = v1 at *
  go_wp2_with fail
  go_loopw [2, 7, 19] (fun lo v i wx => ∃ k : Nat, k ≤ a.length ∧ i = .int .i64 k ∧ lo = .int .u64 ((crw (tmF a m) c0 k).2 : Nat) ∧ Hid (OU wx w.heap.size v (crw (tmF a m) c0 k).1) ∧ Hid (Below w.heap.size w wx)) (fun _ _ i _ => a.length - (intOf i).toNat)
  case atStart => exact ⟨0, Nat.zero_le _, rfl, rfl, O0, B0⟩
  case round =>
    obtain ⟨k, hk, rfl, rfl, hO, hB⟩ := hrel
    by_cases hlt : k < a.length
    · have hki : (k : Int) < (a.length : Int) := by omega
      obtain ⟨b1, o1, c1, e1, q1, q2, hA⟩ := (NA'.out.below hB.out).addr (by omega)
      cases e1
      obtain ⟨x, hx⟩ : ∃ x, a[k]? = some x := ⟨a[k], List.getElem?_eq_getElem hlt⟩
      have kc := hA.2 k x hx
      have hgd : a.getD k 0 = x := by rw [List.getD, hx]; rfl
      have hxB : x < BB := HW.out x (List.mem_of_getElem? hx)
      have hcl := tm_carry HW.out HV.out.1 HV.out.2 k
      have HLT := Lib.hid hlt
      have L1 : Hid ((crw (tmF a m) c0 k).1.length ≤ 1000000) := Lib.hid (by rw [cr_len]; omega)
      have E1 : Hid ((crw (tmF a m) c0 (k + 1)).1 = (crw (tmF a m) c0 k).1 ++ [(x * m + (crw (tmF a m) c0 k).2) % BB]) := Lib.hid (by rw [crw, tmF, hgd])
      have E2 : Hid ((crw (tmF a m) c0 (k + 1)).2 = (x * m + (crw (tmF a m) c0 k).2) / BB) := Lib.hid (by rw [crw, tmF, hgd])
      obtain ⟨lo, hlo⟩ : ∃ lo, lo = (crw (tmF a m) c0 k).2 := ⟨_, rfl⟩
      rw [← hlo] at hcl E1 E2 ⊢
      have CM := Lib.hid (fun w => lMul64 x m w hxB HV.out.1)
      obtain ⟨hi, hhi⟩ : ∃ z, z = x * m / BB := ⟨_, rfl⟩
      obtain ⟨l0, hl0⟩ : ∃ z, z = x * m % BB := ⟨_, rfl⟩
      rw [← hhi, ← hl0] at CM
      have h83 := xAdd l0 lo 0 (by omega)
      rw [Nat.add_zero] at h83
      have S := times_step (x * m) lo hcl (mul_small hxB HV.out.1)
      rw [← hhi, ← hl0] at S
      obtain ⟨d, hd⟩ : ∃ d, d = (x * m + lo) % BB := ⟨_, rfl⟩
      obtain ⟨c2, hc2⟩ : ∃ c2, c2 = (x * m + lo) / BB := ⟨_, rfl⟩
      rw [← hd] at E1
      rw [← hc2] at E2
      rw [← hd, ← hc2] at S
      rw [S.1] at h83
      obtain ⟨cy, hcy⟩ : ∃ z, z = (l0 + lo) / BB := ⟨_, rfl⟩
      rw [← hcy] at h83
      have h83' : ∀ w : World, (callFunc 113 #[.int .u64 l0, .int .u64 lo, .int .u64 0]).run Tryz.prog w = .ok (.value (.tuple #[.int .u64 (d : Int), .int .u64 (cy : Int)])) w := h83
      have hsum : IntKind.u64.wrap ((hi : Int) + (cy : Int)) = (c2 : Int) := by
        rw [show ((hi : Int) + (cy : Int)) = ((hi + cy : Nat) : Int) from by push_cast; rfl, u64_wrap, hcy, S.2]
      clear hx hgd hcl hlo hlt hd hc2 hA q1 q2 hxB hhi hl0 S hcy h83
      go_wp2_with (first
        | (go_at_call 100; refine (CM.out _).mono ?_; rintro e w' ⟨rfl, rfl⟩; clear CM)
        | (at_builtin; refine wpList_app rfl (.tmp 35) (.tmp 37) rfl w.heap.size _ _ _ rfl hO.out rfl L1.out hB.out.size ?_; intro v' w' own' bel' siz'; replace own' := Lib.hid own'; replace bel' := Lib.hid bel'; clear siz'))
      go_roundw
      case rel => exact ⟨k + 1, by have := HLT.out; omega, by go_num, by rw [E2.out], Lib.hid (by rw [E1.out]; exact own'.out), Lib.hid (bel'.out w (Nat.le_refl _) hB.out)⟩
      case measure => have := HLT.out; simp [intOf]; omega
    · have hki : ¬ (k : Int) < (a.length : Int) := by omega
      have hkl : k = a.length := by omega
      subst hkl
      have L1 : Hid ((crw (tmF a m) c0 a.length).1.length ≤ 1000000) := Lib.hid (by rw [cr_len]; omega)
      have W1 : Hid (W64 ((crw (tmF a m) c0 a.length).1 ++ [(crw (tmF a m) c0 a.length).2])) := Lib.hid ((cr_w64 (fun k c => Nat.mod_lt _ BB_pos) _).append fun z hz => by
        rw [List.mem_singleton.1 hz]
        exact tm_carry HW.out HV.out.1 HV.out.2 a.length)
      clear hlt
      go_wp2_with (at_builtin; refine wpList_app rfl (.tmp 43) (.tmp 45) rfl w.heap.size _ _ _ rfl hO.out rfl L1.out hB.out.size ?_; intro v' w' own' bel' siz'; replace own' := Lib.hid own'; replace bel' := Lib.hid bel'; clear siz')
      refine (c82b (own'.out.nl W1.out)).mono ?_
      rintro e w2 ⟨rfl, v2, rfl, hv2, hg2⟩
      have HG2 := Lib.hid (fun g hg => own'.out.blk (hg2 g hg))
      have R2 : Hid (NV w' v2 (val a * m + c0)) := Lib.hid ⟨_, hv2, tn_can _ (Nat.le_refl _), by rw [tn_val _ (Nat.le_refl _), List.take_length, V1.out]⟩
      clear hv2 hg2
      go_wp2_with fail
      go_ret
      exact ⟨bel'.out w (Nat.le_refl _) hB.out, _, rfl, R2.out, HG2.out⟩
theorem lTimes {w : World} {v : Value} {x m c : Nat} (hv : NV w v x) (hx : blen x ≤ 64000) (hm : m < BB) (hc : c < BB) :
    Calls Tryz.prog 77 #[v, .int .u64 m, .int .u64 c] w fun e w' => Below w.heap.size w w' ∧ ∃ v', e = .returned v' ∧ NV w' v' (x * m + c) ∧ ∀ g, blk v' = some g → w.heap.size ≤ g := by
  obtain ⟨a, na, ca, rfl⟩ := hv
  exact lTimesL na hm hc (len_small na.1 ca (n := 1000) hx)
end Go.Proofs.YtjkifbkehochoaaGreatDoor
