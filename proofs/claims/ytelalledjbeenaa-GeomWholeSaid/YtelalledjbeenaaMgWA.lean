/- Rectangles of whole numbers. Matrices of whole numbers; is a number a power of two; are two matrices one. Is a number a power of two; are two matrices one. A float that is whole, as an int; the entries of a matrix as ints. Floor. -/
import Derived.Test.YtelalledjbeenaaWn
import Derived.Test.YtelalledjbeenaaMgGeoI
import Derived.Test.YtelalledjbeenaaGeoX
namespace Go.Proofs.Ytelalledjbeenaa
open Go.RowKit Fl

/-- a whole number as a float -/
def fz (z : Int) : Nat := floatOfInt .f64 z
theorem fz_wz (z : Int) : fz z = wz (z * ONEi) false := by
  unfold fz
  show Ieee.double.nearest (decide (z < 0)) z.natAbs 0 = _
  rw [nearest_int]
  unfold wz
  have h1 : (z * ONEi).natAbs = z.natAbs * ONE := by rw [Int.natAbs_mul]; rfl
  have hp := one_posi
  rw [h1, Bool.and_false, Bool.or_false]
  congr 1
  refine decide_eq_decide.2 ⟨fun h => Int.mul_neg_of_neg_of_pos h hp, fun h => ?_⟩
  rcases Int.lt_or_le z 0 with c | c
  · exact c
  · have := Int.mul_nonneg c (Int.le_of_lt hp); omega
theorem fz_U (z : Int) : U (fz z) := by rw [fz_wz]; exact U_wz _ _
theorem fz_RV (z : Int) : RV (fz z) (pl (fz z)) := RV.self (fz_U z)
theorem fz_place (z : Int) (B : Nat) (h : z.natAbs ≤ B) (hb : B ≤ 9007199254740992) : PWh (pl (fz z)) z B := by
  have hr : Rep (z * ONEi) := rep_whole z (by omega)
  exact ⟨⟨fz z, fz_U z, by rw [fz_wz]; exact fin_wz _ hr, rfl, by rw [fz_wz]; exact un_wz _ hr⟩, h⟩
set_option maxRecDepth 100000 in
set_option maxHeartbeats 1000000 in
theorem k122 (a b c d : Int) (w : World) : Calls Try.prog 122 #[.agg #[.int .i32 a, .int .i32 b, .int .i32 c, .int .i32 d]] w fun e w' => e = .returned (.agg #[.float .f64 (fz a), .float .f64 (fz b), .float .f64 (fz c), .float .f64 (fz d)]) ∧ Below w.heap.size w w' := by
  have T0 : Hid (((w.alloc (.cells #[.int .i32 a, .int .i32 b, .int .i32 c, .int .i32 d] 118)).alloc (.cells #[.float .f64 0, .float .f64 0, .float .f64 0, .float .f64 0] 58)).there (w.heap.size + 1) 0 ([fz a, fz b, fz c, fz d].map (Value.float .f64)).toArray.size) := Lib.hid (by
    have := there_new (w.alloc (.cells #[.int .i32 a, .int .i32 b, .int .i32 c, .int .i32 d] 118)) #[.float .f64 0, .float .f64 0, .float .f64 0, .float .f64 0] 58 4 rfl
    rwa [World.size_alloc] at this)
  have BB := Lib.hid (below_setCells (((Below.refl w.heap.size w).alloc (Nat.le_refl _) (.cells #[.int .i32 a, .int .i32 b, .int .i32 c, .int .i32 d] 118)).alloc (by simp) (.cells #[.float .f64 0, .float .f64 0, .float .f64 0, .float .f64 0] 58)) (show w.heap.size ≤ w.heap.size + 1 by omega) 0 ([fz a, fz b, fz c, fz d].map (Value.float .f64)))
  have e0 : floatOfInt .f64 a = fz a := rfl
  have e1 : floatOfInt .f64 b = fz b := rfl
  have e2 : floatOfInt .f64 c = fz c := rfl
  have e3 : floatOfInt .f64 d = fz d := rfl
  go_enter Try.func122, Try.ntmps122
  go_wp2_with (refine wpList_store_mid rfl 58 (.tmp 2) (.tmp 15) rfl (w.heap.size + 1) 0 ([fz a, fz b, fz c, fz d].map (Value.float .f64)).toArray rfl rfl T0.out size58 (one16 _) ?_)
  refine bodyPost_ret (v := .agg ([fz a, fz b, fz c, fz d].map (Value.float .f64)).toArray) (ret_row Try.prog Try.results122 rfl ([fz a, fz b, fz c, fz d].map (Value.float .f64)) T0.out Try.underlying58 rfl size58) rfl ⟨rfl, BB.out⟩
end Go.Proofs.Ytelalledjbeenaa

namespace Go.Proofs.Ytelalledjbeenaa
open Go.RowKit Fl

/-- a matrix's words -/
def mzL (zs : List Int) (B : Int) : List Nat := zs.map fun z => fz (z.tmod B)
theorem mzL_MU {zs : List Int} (h : zs.length = 16) (B : Int) : MU (mzL zs B) := ⟨by unfold mzL; rw [List.length_map, h], fun x hx => by
  unfold mzL at hx
  obtain ⟨z, _, rfl⟩ := List.mem_map.1 hx
  exact fz_U _⟩
structure MZ (wx w : World) (zs : List Int) (B : Int) (k : Nat) (os : List Nat) : Prop where
  a : wx.rangeAt w.heap.size 0 (zs.map (Value.int .i16))
  r : wx.rangeAt (w.heap.size + 1 + 1) 0 (os.map (Value.float .f64))
  t1 : wx.there (w.heap.size + 1) 0 16
  t2 : wx.there (w.heap.size + 1 + 1) 0 16
  b : Below w.heap.size w wx
  l : w.heap.size + 1 + 1 < wx.heap.size
  len : os.length = 16
  val : ∀ j, j < k → os[j]? = (mzL zs B)[j]?
theorem mz_entry (w : World) (zs : List Int) (B : Int) : MZ (((w.alloc (.cells (zs.map (Value.int .i16)).toArray 121)).alloc (.cells Z16 80)).alloc (.cells Z16 80)) w zs B 0 (List.replicate 16 0) := by
  have e1 : (w.alloc (.cells (zs.map (Value.int .i16)).toArray 121)).heap.size = w.heap.size + 1 := by simp
  have e2 : ((w.alloc (.cells (zs.map (Value.int .i16)).toArray 121)).alloc (.cells Z16 80)).heap.size = w.heap.size + 1 + 1 := by simp
  have al := fun (W : World) (o : Obj) => (Below.refl W.heap.size W).alloc (Nat.le_refl _) o
  have r0 := range_new w (zs.map (Value.int .i16)) 121
  have t1 := there_new (w.alloc (.cells (zs.map (Value.int .i16)).toArray 121)) Z16 80 16 rfl
  have t2 := there_new ((w.alloc (.cells (zs.map (Value.int .i16)).toArray 121)).alloc (.cells Z16 80)) Z16 80 16 rfl
  have r2 := range_new ((w.alloc (.cells (zs.map (Value.int .i16)).toArray 121)).alloc (.cells Z16 80)) ((List.replicate 16 0).map (Value.float .f64)) 80
  rw [e1] at t1
  rw [e2] at t2 r2
  exact ⟨range_below (range_below r0 (al _ _) (by simp)) (al _ _) (by simp <;> omega), r2, there_below t1 (al _ _) (by simp), t2, (((Below.refl _ _).alloc (Nat.le_refl _) _).alloc (by simp) _).alloc (by simp <;> omega) _, by simp, by simp, fun j hj => by omega⟩
theorem mz_step {wx w : World} {zs : List Int} {B : Int} {k : Nat} {os : List Nat} {z : Int} (h : MZ wx w zs B k os) (hk : k < 16) (hz : zs[k]? = some z) :
    MZ (wx.setCell ⟨w.heap.size + 1 + 1, k, none⟩ (.float .f64 (fz (z.tmod B)))) w zs B (k + 1) (os.set k (fz (z.tmod B))) := by
  have hb : Below (w.heap.size + 1 + 1) wx (wx.setCell ⟨w.heap.size + 1 + 1, k, none⟩ (.float .f64 (fz (z.tmod B)))) := (Below.refl _ wx).setCell (p := ⟨w.heap.size + 1 + 1, k, none⟩) (Nat.le_refl _) _
  refine ⟨range_below h.a hb (by omega), range_set h.r _, there_below h.t1 hb (by omega), there_set h.t2 _ _, h.b.setCell (by simp; omega) _, Nat.lt_of_lt_of_le h.l hb.size, by rw [List.length_set]; exact h.len, fun j hj => ?_⟩
  by_cases e : j = k
  · subst e
    rw [List.getElem?_set_self (by rw [h.len]; exact hk)]
    unfold mzL
    rw [List.getElem?_map, hz]; rfl
  · rw [List.getElem?_set_ne (fun x => e x.symm)]
    exact h.val j (by omega)
theorem mz_end {wx w : World} {zs : List Int} {B : Int} {os : List Nat} (h : MZ wx w zs B 16 os) (hl : zs.length = 16) : os = mzL zs B := by
  apply List.ext_getElem?
  intro j
  by_cases hj : j < 16
  · exact h.val j hj
  · rw [List.getElem?_eq_none (by rw [h.len]; omega), List.getElem?_eq_none (by unfold mzL; rw [List.length_map, hl]; omega)]
set_option maxRecDepth 100000 in
set_option maxHeartbeats 2000000 in
theorem k123 {zs : List Int} (hl : zs.length = 16) (hz : ∀ z ∈ zs, -32768 ≤ z ∧ z ≤ 32767) (B : Nat) (hB : 0 < B ∧ B < 32768) (w : World) :
    Calls Try.prog 123 #[.agg (zs.map (Value.int .i16)).toArray, .int .i16 B] w fun e w' => e = .returned (.agg ((mzL zs B).map (Value.float .f64)).toArray) ∧ Below w.heap.size w w' := by
  have S0 := Lib.hid (mz_entry w zs B)
  have HL := Lib.hid hl
  have HZ := Lib.hid hz
  have b1 : (0 : Int) < (B : Int) := by omega
  have b2 : (B : Int) < 32768 := by omega
  clear hl hz hB
  go_enter Try.func123, Try.ntmps123
  go_wp2_with fail
  go_loopw [7] (fun i wx => ∃ (k : Nat) (os : List Nat), k ≤ 16 ∧ i = .int .i64 k ∧ Hid (MZ wx w zs B k os)) (fun i _ => 16 - (intOf i).toNat)
  case atStart => exact ⟨0, _, by omega, rfl, S0⟩
  case round =>
    obtain ⟨k, os, hk, rfl, hI⟩ := hrel
    clear S0
    by_cases hlt : k < 16
    · have hki : (k : Int) < 16 := by omega
      have hk0 : (0 : Int) ≤ (k : Int) := by omega
      have HLT := Lib.hid hlt
      obtain ⟨z, hzk⟩ : ∃ z, zs[k]? = some z := ⟨zs[k]'(by rw [HL.out]; exact hlt), List.getElem?_eq_getElem _⟩
      have I2 := Lib.hid (mz_step hI.out hlt hzk)
      have kc := hI.out.a k (.int .i16 z) (by rw [List.getElem?_map, hzk]; rfl)
      rw [Nat.zero_add] at kc
      have zb := HZ.out z (List.mem_of_getElem? hzk)
      have z1 : -32768 ≤ z := zb.1
      have z2 : z ≤ 32767 := zb.2
      have st := store1 hI.out.t2 (o := k) hlt (fz (z.tmod B))
      have e0 : floatOfInt .f64 (z.tmod (B : Int)) = fz (z.tmod B) := rfl
      clear hlt hzk zb hI
      go_upto_region 5 with fail
      go_wp2
      go_roundw
      case rel => exact ⟨k + 1, _, by have := HLT.out; omega, by go_num, I2⟩
      case measure => have := HLT.out; simp [intOf]; omega
    · have hki : ¬ (k : Int) < 16 := by omega
      have hk4 : k = 16 := by omega
      subst hk4
      obtain rfl := mz_end hI.out HL.out
      have RR := Lib.hid hI.out.r
      have ML := Lib.hid (mzL_MU HL.out (B : Int))
      have E1 := Lib.hid (size80L (mzL zs B) ML.out.1)
      have E2 := Lib.hid (size80A (mzL zs B) ML.out.1)
      have T0 : Hid (wr.there (w.heap.size + 1) 0 ((mzL zs B).map (Value.float .f64)).toArray.size) := Lib.hid (thereA hI.out.t1 ML.out.1)
      have BB := Lib.hid (below_setCells hI.out.b (show w.heap.size ≤ w.heap.size + 1 by omega) 0 ((mzL zs B).map (Value.float .f64)))
      clear hlt hk hI
      go_wp2_with (first
        | (refine wpList_load_mid rfl 80 (.tmp 5) rfl (w.heap.size + 1 + 1) 0 rfl ((mzL zs B).map (Value.float .f64)) _ RR.out Try.underlying80 rfl E1.out ?_)
        | (refine wpList_store_mid rfl 80 (.tmp 4) (.tmp 19) rfl (w.heap.size + 1) 0 ((mzL zs B).map (Value.float .f64)).toArray rfl rfl T0.out E2.out (one16 _) ?_))
      refine bodyPost_ret (v := .agg ((mzL zs B).map (Value.float .f64)).toArray) (ret_row Try.prog Try.results123 rfl ((mzL zs B).map (Value.float .f64)) T0.out Try.underlying80 rfl E1.out) rfl ⟨rfl, BB.out⟩
end Go.Proofs.Ytelalledjbeenaa

namespace Go.Proofs.Ytelalledjbeenaa
open Go.RowKit Fl

theorem pow_and (m : Nat) (h0 : m ≠ 0) (h : m &&& (m - 1) = 0) : ∃ t, m = 2 ^ t := by
  refine ⟨m.log2, ?_⟩
  have h1 : 2 ^ m.log2 ≤ m := Nat.log2_self_le h0
  have h2 : m < 2 ^ (m.log2 + 1) := Nat.lt_log2_self
  rcases Nat.lt_or_ge (2 ^ m.log2) m with c | c
  · exfalso
    have b1 : m.testBit m.log2 = true := by
      rw [Nat.testBit_eq_decide_div_mod_eq, decide_eq_true_eq]
      have : m / 2 ^ m.log2 = 1 := Nat.div_eq_of_lt_le (by omega) (by rw [Nat.pow_succ] at h2; omega)
      rw [this]
    have b2 : (m - 1).testBit m.log2 = true := by
      rw [Nat.testBit_eq_decide_div_mod_eq, decide_eq_true_eq]
      have : (m - 1) / 2 ^ m.log2 = 1 := Nat.div_eq_of_lt_le (by omega) (by rw [Nat.pow_succ] at h2; omega)
      rw [this]
    have := Nat.testBit_and m (m - 1) m.log2
    rw [h, b1, b2, Nat.zero_testBit] at this
    cases this
  · omega
/-- the test of a power of two -/
def isPow (n : Int) : Bool := decide (0 < n.natAbs) && decide (n.natAbs &&& (n.natAbs - 1) = 0)
theorem isPow_true {n : Int} (h : isPow n = true) : ∃ t, n.natAbs = 2 ^ t := by
  unfold isPow at h
  rw [Bool.and_eq_true, decide_eq_true_eq, decide_eq_true_eq] at h
  exact pow_and _ (by omega) h.2
set_option maxRecDepth 100000 in
set_option maxHeartbeats 1000000 in
theorem k126 (n : Int) (w : World) (h : n.natAbs ≤ 4611686018427387904) : Calls Try.prog 126 #[.int .i64 n] w fun e w' => e = .returned (.bool (isPow n)) ∧ w = w' := by
  have h1 : -4611686018427387904 ≤ n := by omega
  have h2 : n ≤ 4611686018427387904 := by omega
  have mx : max n (-n) = (n.natAbs : Int) := by omega
  by_cases h0 : n = 0
  · subst h0
    clear mx
    go_enter Try.func126, Try.ntmps126
    go_wp2
    go_ret
    exact ⟨rfl, rfl⟩
  · have E := Lib.hid (show (bits .and .i64 (n.natAbs : Int) ((n.natAbs : Int) - 1) == 0) = isPow n by
      rw [show (n.natAbs : Int) - 1 = ((n.natAbs - 1 : Nat) : Int) by omega, i64_and_nat _ _ (by omega) (by omega)]
      unfold isPow
      rw [decide_eq_true (show 0 < n.natAbs by omega), Bool.true_and]
      rw [Bool.eq_iff_iff]
      simp only [beq_iff_eq, decide_eq_true_eq]
      omega)
    go_enter Try.func126, Try.ntmps126
    go_wp2
    go_ret
    exact ⟨by rw [E.out]; rfl, rfl⟩
set_option maxRecDepth 100000 in
set_option maxHeartbeats 1000000 in
/-- two matrices whose places are one -/
theorem k127 {a b : List Nat} (ha : MU a) (hb : MU b) (he : ∀ j, j < 16 → feqP (mp a j) (mp b j) = true) (w : World) :
    Calls Try.prog 127 #[.agg (a.map (Value.float .f64)).toArray, .agg (b.map (Value.float .f64)).toArray] w fun e w' => e = .returned (.bool true) ∧ Below w.heap.size w w' := by
  have HM := Lib.hid (And.intro ha hb)
  have HE := Lib.hid he
  clear ha hb he
  go_enter Try.func127, Try.ntmps127
  go_wp2_with fail
  refine wp_gen (fun wx => Hid (wx.rangeAt w.heap.size 0 (a.map (Value.float .f64)) ∧ wx.rangeAt (w.heap.size + 1) 0 (b.map (Value.float .f64)) ∧ Below w.heap.size w wx)) ?_ ?_
  · have e1 : (w.alloc (.cells (a.map (Value.float .f64)).toArray 80)).heap.size = w.heap.size + 1 := by simp
    have r1 := range_new (w.alloc (.cells (a.map (Value.float .f64)).toArray 80)) (b.map (Value.float .f64)) 80
    rw [e1] at r1
    exact Lib.hid ⟨range_below (range_new w _ 80) (alloc_below _ _) (by simp), r1, ((Below.refl _ _).alloc (Nat.le_refl _) _).alloc (by simp) _⟩
  intro wc hW
  go_loopw [6] (fun i wx => ∃ k : Nat, k ≤ 16 ∧ i = .int .i64 k ∧ Hid (wx.rangeAt w.heap.size 0 (a.map (Value.float .f64)) ∧ wx.rangeAt (w.heap.size + 1) 0 (b.map (Value.float .f64)) ∧ Below w.heap.size w wx)) (fun i _ => 16 - (intOf i).toNat)
  case atStart => exact ⟨0, by omega, rfl, hW⟩
  case round =>
    obtain ⟨k, hk, rfl, hI⟩ := hrel
    clear hW
    by_cases hlt : k < 16
    · have hki : (k : Int) < 16 := by omega
      have hk0 : (0 : Int) ≤ (k : Int) := by omega
      have HLT := Lib.hid hlt
      obtain ⟨x, hx, rx⟩ := HM.out.1.get hlt
      obtain ⟨y, hy, ry⟩ := HM.out.2.get hlt
      have kx := hI.out.1 k _ (map_get hx)
      have ky := hI.out.2.1 k _ (map_get hy)
      rw [Nat.zero_add] at kx ky
      have e0 : (FloatKind.f64.format.order x y != some Ordering.eq) = false := by
        have := (RV.eq_ rx ry).trans (HE.out k hlt)
        simpa [bne] using this
      have BB := Lib.hid (fun n => Bd hI.out.2.2 n)
      have RR := Lib.hid (And.intro hI.out.1 hI.out.2.1)
      clear hlt hx hy rx ry
      go_upto_region 4 with fail
      go_quiet (fail)
      go_wp2_with fail
      go_roundw
      case rel => exact ⟨k + 1, by have := HLT.out; omega, by go_num, Lib.hid ⟨fun j v hj => RR.out.1 j v hj, fun j v hj => RR.out.2 j v hj, BB.out _⟩⟩
      case measure => have := HLT.out; simp [intOf]; omega
    · have hki : ¬ (k : Int) < 16 := by omega
      clear hlt
      go_wp2
      go_ret
      exact ⟨rfl, hI.out.2.2⟩
end Go.Proofs.Ytelalledjbeenaa

namespace Go.Proofs.Ytelalledjbeenaa
open Go.RowKit Fl

theorem cut_zero (s : Bool) (n d : Nat) : Ieee.Toward.zero.cut s n d = n / 2 ^ (min d (n.log2 + 2)) := by
  unfold Ieee.Toward.cut
  simp only [Nat.shiftLeft_eq, Nat.one_mul]
  rfl
theorem read_int (x : Nat) (h : U x) (hf : fin x = true) (z : Nat) (e : val 52 (rg x) = z * ONE) : (Ieee.double.read x).toInt .zero = some (if sg x = true then -(z : Int) else (z : Int)) := by
  obtain ⟨m, j, er, v⟩ := read_fin x h hf
  rw [er]
  unfold Ieee.Datum.toInt Ieee.Datum.integral
  simp only
  rw [signed_eq, cut_zero, Nat.shiftLeft_eq, Nat.pow_zero, Nat.mul_one]
  have hz : m * 2 ^ (-1074 + (j : Int)).toNat / 2 ^ (min (-(-1074 + (j : Int))).toNat ((m * 2 ^ (-1074 + (j : Int)).toNat).log2 + 2)) = z := by
    rw [← v] at e
    have hK := K_eq
    rcases Nat.le_total j 1074 with hj | hj
    · rw [show (-1074 + (j : Int)).toNat = 0 by omega, show (-(-1074 + (j : Int))).toNat = 1074 - j by omega, Nat.pow_zero, Nat.mul_one]
      have e2 : m = z * 2 ^ (1074 - j) := by
        rw [one_split (1074 - j) j (by omega), ← Nat.mul_assoc] at e
        exact Nat.eq_of_mul_eq_mul_right (Nat.two_pow_pos j) e
      rcases Nat.eq_zero_or_pos z with h0 | h0
      · subst h0
        rw [e2, Nat.zero_mul, Nat.zero_div]
      · have hm : m ≠ 0 := by rw [e2]; exact Nat.mul_ne_zero (by omega) (Nat.ne_of_gt (Nat.two_pow_pos _))
        have hl : 1074 - j ≤ m.log2 := by
          have h1 : 2 ^ (1074 - j) ≤ m := by rw [e2]; exact Nat.le_mul_of_pos_left _ h0
          exact (Nat.le_log2 hm).2 h1
        rw [Nat.min_eq_left (by omega)]
        rw [e2]
        exact Nat.mul_div_cancel _ (Nat.two_pow_pos _)
    · rw [show (-1074 + (j : Int)).toNat = j - 1074 by omega, show (-(-1074 + (j : Int))).toNat = 0 by omega, Nat.zero_min, Nat.pow_zero, Nat.div_one]
      rw [pow_one j (j - 1074) (by omega), ← Nat.mul_assoc] at e
      exact Nat.eq_of_mul_eq_mul_right one_pos e
  rw [hz]
theorem f2i (x : Nat) (z : Int) (h : U x) (hf : fin x = true) (e : un x = z * ONEi) (hz : z.natAbs ≤ 9007199254740992) : floatToIntVal .f64 x .i64 = some z := by
  have hv : val 52 (rg x) = z.natAbs * ONE := by rw [← un_abs, e, Int.natAbs_mul]; rfl
  have hr := read_int x h hf z.natAbs hv
  have hs : (if sg x = true then -(z.natAbs : Int) else (z.natAbs : Int)) = z := by
    rw [sgn_un, hv] at e
    have hp := one_posi
    have e1 : ((z.natAbs * ONE : Nat) : Int) = (z.natAbs : Int) * ONEi := by unfold ONEi; push_cast; rfl
    rw [e1] at e
    have s1 : 0 < z → 0 < z * ONEi := fun h => Int.mul_pos h hp
    have s2 : z < 0 → z * ONEi < 0 := fun h => Int.mul_neg_of_neg_of_pos h hp
    have s3 := Int.mul_nonneg (show (0 : Int) ≤ (z.natAbs : Int) by omega) (Int.le_of_lt hp)
    by_cases c : sg x = true
    · rw [if_pos c] at e ⊢; omega
    · rw [if_neg c] at e ⊢; omega
  unfold floatToIntVal
  rw [show FloatKind.f64.decode x = Ieee.double.read x from rfl, hr, hs]
  simp only
  rw [if_pos]
  constructor
  · show (-9223372036854775808 : Int) ≤ z; omega
  · show z ≤ (9223372036854775807 : Int); omega
/-- a matrix of whole numbers -/
structure IM (ms : List Nat) (z : Nat → Int) (B : Nat) : Prop where
  mu : MU ms
  at_ : ∀ j, j < 16 → PWh (mp ms j) (z j) B
theorem IM.word {ms : List Nat} {z : Nat → Int} {B : Nat} (h : IM ms z B) {j : Nat} (hj : j < 16) : ∃ x, ms[j]? = some x ∧ U x ∧ fin x = true ∧ un x = z j * ONEi := by
  obtain ⟨x, hx, hu, hp⟩ := h.mu.get hj
  obtain ⟨r, ur, fr, pr, er⟩ := (h.at_ j hj).pu
  have e : x = r := by
    rcases (pl_eq_iff hu ur).1 (hp.trans pr.symm) with h1 | ⟨_, h2⟩
    · exact h1
    · rw [fin_not_nan fr] at h2; cases h2
  subst e
  exact ⟨x, hx, hu, fr, er⟩
theorem mzL_IM {zs : List Int} (hl : zs.length = 16) (B : Nat) (hB : 0 < B ∧ B ≤ 1024) : IM (mzL zs B) (fun j => (zs.getD j 0).tmod B) (B - 1) := by
  refine ⟨mzL_MU hl B, fun j hj => ?_⟩
  have hz : zs[j]? = some (zs[j]'(by omega)) := List.getElem?_eq_getElem (by omega)
  have e : mp (mzL zs B) j = pl (fz ((zs.getD j 0).tmod B)) := by
    unfold mp mzL
    rw [List.getD_eq_getElem?_getD, List.getElem?_map, List.getD_eq_getElem?_getD, hz]; rfl
  rw [e]
  refine fz_place _ _ ?_ (by omega)
  have h1 := Int.tmod_lt_of_pos (zs.getD j 0) (show (0 : Int) < (B : Int) by omega)
  have h2 : -(B : Int) < (zs.getD j 0).tmod B := by
    have := Int.tmod_lt_of_pos (-(zs.getD j 0)) (show (0 : Int) < (B : Int) by omega)
    rw [Int.neg_tmod] at this; omega
  omega
set_option maxRecDepth 100000 in
set_option maxHeartbeats 1000000 in
/-- an entry -/
theorem k174 {ms : List Nat} {z : Nat → Int} {B : Nat} (h : IM ms z B) (hB : B ≤ 9007199254740992) (b c i : Nat) (hc : c < 4) (hi : i < 4) (w : World) (hr : w.rangeAt b 0 (ms.map (Value.float .f64))) :
    Calls Try.prog 174 #[.int .i64 c, .int .i64 i, .pointer (some ⟨b, 0, none⟩)] w fun e w' => e = .returned (.int .i64 (z (4 * c + i))) ∧ w = w' := by
  obtain ⟨x, hx, hu, hf, he⟩ := h.word (j := 4 * c + i) (by omega)
  have hzb := (h.at_ (4 * c + i) (by omega)).le
  have hcv := fun w => run_convert_float_int (P := Try.prog) w 24 2 .f64 .i64 x (z (4 * c + i)) (by rw [Try.underlying24]; rfl) Try.underlying2 (f2i x _ hu hf he (by omega))
  have kc := hr _ _ (map_get hx)
  rw [Nat.zero_add] at kc
  have a1 : (0 : Int) ≤ 4 * (c : Int) + (i : Int) := by omega
  have a2 : 4 * (c : Int) + (i : Int) < 16 := by omega
  have a3 : (4 * (c : Int) + (i : Int)).toNat = 4 * c + i := by omega
  generalize z (4 * c + i) = v at *
  clear hx he h hr
  go_enter Try.func174, Try.ntmps174
  go_wp2
  go_ret
  exact ⟨rfl, rfl⟩
end Go.Proofs.Ytelalledjbeenaa

namespace Go.Proofs.Ytelalledjbeenaa
open Go.RowKit Fl

theorem cut_down (s : Bool) (n d : Nat) : Ieee.Toward.down.cut s n d = n / 2 ^ (min d (n.log2 + 2)) + (s && n % 2 ^ (min d (n.log2 + 2)) != 0).toNat := by
  unfold Ieee.Toward.cut
  simp only [Nat.shiftLeft_eq, Nat.one_mul]
/-- how many whole ones lie below an amount, one more of what is below nought and not whole -/
def flN (x : Nat) : Nat := val 52 (rg x) / ONE + (sg x && val 52 (rg x) % ONE != 0).toNat
theorem floor_cut (s : Bool) (m j : Nat) : Ieee.Toward.down.cut s (m * 2 ^ (-1074 + (j : Int)).toNat) (-(-1074 + (j : Int))).toNat = m * 2 ^ j / ONE + (s && m * 2 ^ j % ONE != 0).toNat := by
  have hK := K_eq
  rw [cut_down]
  rcases Nat.le_total j 1074 with hj | hj
  · rw [show (-1074 + (j : Int)).toNat = 0 by omega, show (-(-1074 + (j : Int))).toNat = 1074 - j by omega, Nat.pow_zero, Nat.mul_one]
    rw [one_split (1074 - j) j (by omega)]
    rw [Nat.mul_div_mul_right _ _ (Nat.two_pow_pos j), Nat.mul_mod_mul_right]
    have e2 : (m % 2 ^ (1074 - j) * 2 ^ j != 0) = (m % 2 ^ (1074 - j) != 0) := by
      have := Nat.two_pow_pos j
      rw [Bool.eq_iff_iff, bne_iff_ne, bne_iff_ne]
      constructor
      · intro h e; rw [e, Nat.zero_mul] at h; exact h rfl
      · intro h e; rcases Nat.mul_eq_zero.1 e with e | e
        · exact h e
        · omega
    rw [e2]
    rcases Nat.le_total (1074 - j) (m.log2 + 2) with c | c
    · rw [Nat.min_eq_left c]
    · rw [Nat.min_eq_right c]
      have h1 : m < 2 ^ (m.log2 + 2) := Nat.lt_of_lt_of_le Nat.lt_log2_self (Nat.pow_le_pow_right (by decide) (by omega))
      have h2 : m < 2 ^ (1074 - j) := Nat.lt_of_lt_of_le h1 (Nat.pow_le_pow_right (by decide) c)
      rw [Nat.div_eq_of_lt h1, Nat.div_eq_of_lt h2, Nat.mod_eq_of_lt h1, Nat.mod_eq_of_lt h2]
  · rw [show (-1074 + (j : Int)).toNat = j - 1074 by omega, show (-(-1074 + (j : Int))).toNat = 0 by omega, Nat.zero_min, Nat.pow_zero, Nat.div_one, Nat.mod_one]
    rw [pow_one j (j - 1074) (by omega), ← Nat.mul_assoc, Nat.mul_div_cancel _ one_pos, Nat.mul_mod_left]
def flW (x : Nat) : Nat := word (sg x) (rnd (flN x * ONE))
def onDown (x : Nat) : Ieee.Datum → Sem Value
  | .nan s t => if FloatKind.f64.format.quiet t = t then pure (.float .f64 x) else
    (choose (.extern "math.Floor,Ceil,Trunc,RoundToEven.signallingNaN kept" 2)).bind fun k => pure (.float .f64 (if k == 1 then x else FloatKind.f64.encode (.nan s (FloatKind.f64.format.quiet t))))
  | d => pure (.float .f64 (FloatKind.f64.encode (d.integral .down)))
theorem onDown_eq (x : Nat) : Extern.MathFloor.toIntegral "math.archFloor" .down #[.float .f64 x] = onDown x (Ieee.double.read x) := rfl
theorem x172 (x : Nat) (w : World) (hx : U x) (hf : fin x = true) : (callFunc 172 #[.float .f64 x]).run Try.prog w = .ok (.value (.float .f64 (flW x))) w := by
  rw [run_callFunc_extern (P := Try.prog) (f := 172) (fn := Try.f172) (e := Extern.MathFloor.toIntegral "math.archFloor" .down) (by kernel_rfl) (by kernel_rfl) (by kernel_rfl) (by kernel_rfl) (by kernel_rfl)]
  have key : (Extern.MathFloor.toIntegral "math.archFloor" .down #[.float .f64 x]).run Try.prog w = .ok (.float .f64 (flW x)) w := by
    obtain ⟨m, j, e, v⟩ := read_fin x hx.lt hf
    have hw : Ieee.double.write ((Ieee.double.read x).integral .down) = flW x := by
      rw [e]
      show Ieee.double.nearest _ _ _ = _
      rw [Nat.shiftLeft_eq, floor_cut, nearest_int, v]
      rfl
    rw [onDown_eq]
    rw [← hw, e]
    rfl
  rw [key]; rfl
def RetFl (e : Ending) : Prop := ∃ (r : Nat) (F : Int), e = .returned (.float .f64 r) ∧ U r ∧ PWh (pl r) F 512
theorem flW_place (x : Nat) (h : val 52 (rg x) ≤ 512 * ONE) : U (flW x) ∧ ∃ F, PWh (pl (flW x)) F 512 := by
  have hp := one_pos
  have hn : flN x ≤ 512 := by
    unfold flN
    have h1 : val 52 (rg x) / ONE ≤ 512 := Nat.div_le_of_le_mul (by rw [Nat.mul_comm]; exact h)
    rcases Nat.lt_or_eq_of_le h1 with c | c
    · have : (sg x && val 52 (rg x) % ONE != 0).toNat ≤ 1 := Bool.toNat_le _
      omega
    · have h2 := Nat.div_add_mod (val 52 (rg x)) ONE
      rw [c] at h2
      have h3 : val 52 (rg x) % ONE = 0 := by rw [Nat.mul_comm] at h2; omega
      rw [h3, c]
      cases sg x <;> simp
  have hs := small_word (flN x) K (by omega) (by omega)
  rw [← one_pow] at hs
  refine ⟨U_word _ _ (rnd_lt _), if sg x = true then -(flN x : Int) else (flN x : Int), ⟨flW x, U_word _ _ (rnd_lt _), fin_word _ _ hs.2, rfl, ?_⟩, by split <;> omega⟩
  unfold flW
  rw [un_word _ _ hs.1]
  have e : ((flN x * ONE : Nat) : Int) = (flN x : Int) * ONEi := by unfold ONEi; push_cast; rfl
  rw [e]
  split
  · rw [Int.neg_mul]
  · rfl
set_option maxRecDepth 100000 in
set_option maxHeartbeats 1000000 in
theorem k124 (x : Nat) (w : World) (hx : U x) (hf : fin x = true) (h : val 52 (rg x) ≤ 512 * ONE) : Calls Try.prog 124 #[.float .f64 x] w fun e w' => RetFl e ∧ w = w' := by
  have hc := fun w => x172 x w hx hf
  obtain ⟨hu, F, hF⟩ := flW_place x h
  have R : Hid (RetFl (.returned (.float .f64 (flW x)))) := Lib.hid ⟨_, F, rfl, hu, hF⟩
  clear h hf hx hu hF
  go_enter Try.func124, Try.ntmps124
  go_wp2
  go_ret
  exact ⟨R.out, rfl⟩
end Go.Proofs.Ytelalledjbeenaa
