/- Identity, Scale. -/
import Derived.Test.YtelalledjbeenaaGeoH
namespace Go.Proofs.Ytelalledjbeenaa
open Go.RowKit Fl

/-- the words of Identity, when so many ones are laid -/
def idK (k : Nat) : List Nat := (List.range 16).map fun j => if j % 5 = 0 ∧ j / 5 < k then 4607182418800017408 else 0
def idL : List Nat := idK 4
def z16 : List Nat := List.replicate 16 0
theorem range_set {W : World} {b n : Nat} {xs : List Nat} (h : W.rangeAt b 0 (xs.map (Value.float .f64))) (x : Nat) : (W.setCell ⟨b, n, none⟩ (.float .f64 x)).rangeAt b 0 ((xs.set n x).map (Value.float .f64)) := fun j v hj => by
  rw [Nat.zero_add]
  rw [List.getElem?_map, Option.map_eq_some_iff] at hj
  obtain ⟨y, hy, rfl⟩ := hj
  by_cases hjn : j = n
  · subst hjn
    have hl : j < xs.length := by have := (List.getElem?_eq_some_iff.1 hy).1; rwa [List.length_set] at this
    rw [List.getElem?_set_self hl] at hy
    injection hy with hy
    subst hy
    have h0 := h j _ (by rw [List.getElem?_map, List.getElem?_eq_getElem hl]; rfl)
    rw [Nat.zero_add] at h0
    exact World.cell?_setCell_same _ _ _ h0
  · rw [List.getElem?_set_ne (fun e => hjn e.symm)] at hy
    have h0 := h j (.float .f64 y) (by rw [List.getElem?_map, hy]; rfl)
    rw [Nat.zero_add] at h0
    exact (World.cell?_setCell_other _ _ _ _ (fun e => hjn (by injection e with _ e; exact e.symm))).trans h0
theorem one16 (xs : List Nat) : (xs.map (Value.float .f64)).toArray.all (·.oneCell') = true :=
  all_oneCell_toArray (fun v hv => by obtain ⟨x, _, rfl⟩ := List.mem_map.1 hv; rfl)
theorem size80L (xs : List Nat) (h : xs.length = 16) : (Try.prog.info? 80).map (·.size) = some (xs.map (Value.float .f64)).length := by rw [List.length_map, h]; exact size80
theorem size80A (xs : List Nat) (h : xs.length = 16) : (Try.prog.info? 80).map (·.size) = some (xs.map (Value.float .f64)).toArray.size := by rw [List.size_toArray]; exact size80L xs h
structure IdAt (wx w : World) (k : Nat) : Prop where
  r : wx.rangeAt (w.heap.size + 1) 0 ((idK k).map (Value.float .f64))
  t1 : wx.there (w.heap.size + 1) 0 16
  t0 : wx.there w.heap.size 0 16
  b : Below w.heap.size w wx
def Z16 : Array Value := #[.float .f64 0, .float .f64 0, .float .f64 0, .float .f64 0, .float .f64 0, .float .f64 0, .float .f64 0, .float .f64 0, .float .f64 0, .float .f64 0, .float .f64 0, .float .f64 0, .float .f64 0, .float .f64 0, .float .f64 0, .float .f64 0]
theorem Z16_size : Z16.size = 16 := rfl
theorem Z16_list : Z16 = (z16.map (Value.float .f64)).toArray := rfl
theorem id0 : (idK 0) = z16 := by decide
theorem id_step (k : Nat) (h : k < 4) : (idK k).set (5 * k) 4607182418800017408 = idK (k + 1) := by
  rcases (by omega : k = 0 ∨ k = 1 ∨ k = 2 ∨ k = 3) with rfl | rfl | rfl | rfl <;> decide
theorem id_start (w : World) : IdAt ((w.alloc (.cells Z16 80)).alloc (.cells Z16 80)) w 0 := by
  have e1 : (w.alloc (.cells Z16 80)).heap.size = w.heap.size + 1 := by simp
  refine ⟨?_, ?_, there_below (there_new w Z16 80 16 rfl) (Below.alloc (Below.refl _ _) (Nat.le_refl _) _) (by simp), ((Below.refl _ _).alloc (Nat.le_refl _) _).alloc (by simp) _⟩
  · have := range_new (w.alloc (.cells Z16 80)) (z16.map (Value.float .f64)) 80
    rw [e1, ← Z16_list, ← id0] at this
    exact this
  · have := there_new (w.alloc (.cells Z16 80)) Z16 80 16 rfl
    rwa [e1] at this
theorem IdAt.step {wx w : World} {k : Nat} (h : IdAt wx w k) (hk : k < 4) : IdAt (wx.setCell ⟨w.heap.size + 1, 5 * k, none⟩ (.float .f64 4607182418800017408)) w (k + 1) :=
  ⟨by rw [← id_step k hk]; exact range_set h.r _, there_set h.t1 _ _, there_set h.t0 _ _, h.b.setCell (by simp) _⟩
theorem below_set16 {w wx : World} (h : Below w.heap.size w wx) (vs : List Value) : Below w.heap.size w (wx.setCells w.heap.size 0 vs) := below_setCells h (Nat.le_refl _) 0 vs
set_option maxRecDepth 100000 in
set_option maxHeartbeats 2000000 in
theorem k87 (w : World) : Calls Try.prog 87 #[] w fun e w' => e = .returned (.agg (idL.map (Value.float .f64)).toArray) ∧ Below w.heap.size w w' := by
  have S0 := Lib.hid (id_start w)
  go_enter Try.func87, Try.ntmps87
  go_wp2_with fail
  go_loopw [3] (fun i wx => ∃ k : Nat, k ≤ 4 ∧ i = .int .i64 k ∧ Hid (IdAt wx w k)) (fun i _ => 4 - (intOf i).toNat)
  case atStart => exact ⟨0, by omega, rfl, S0⟩
  case round =>
    obtain ⟨k, hk, rfl, hI⟩ := hrel
    clear S0
    by_cases hlt : k < 4
    · have hki : (k : Int) < 4 := by omega
      have hk5 : 5 * (k : Int) < 16 := by omega
      have hk0 : (0 : Int) ≤ 5 * (k : Int) := by omega
      have HLT := Lib.hid hlt
      have st := store1 hI.out.t1 (o := 5 * k) (by omega) 4607182418800017408
      have I2 := Lib.hid (hI.out.step hlt)
      clear hlt
      go_wp2
      go_roundw
      case rel => exact ⟨k + 1, by have := HLT.out; omega, by go_num, I2⟩
      case measure => have := HLT.out; simp [intOf]; omega
    · have hki : ¬ (k : Int) < 4 := by omega
      have hk4 : k = 4 := by omega
      subst hk4
      have RR := Lib.hid hI.out.r
      have E1 := Lib.hid (size80L idL rfl)
      have E2 := Lib.hid (size80A idL rfl)
      have T0 : Hid (wr.there w.heap.size 0 (idL.map (Value.float .f64)).toArray.size) := Lib.hid hI.out.t0
      have BB := Lib.hid (below_set16 hI.out.b (idL.map (Value.float .f64)))
      clear hlt hk hI
      go_wp2_with (first
        | (refine wpList_load_mid rfl 80 (.tmp 1) rfl (w.heap.size + 1) 0 rfl (idL.map (Value.float .f64)) _ RR.out Try.underlying80 rfl E1.out ?_)
        | (refine wpList_store_mid rfl 80 (.tmp 0) (.tmp 10) rfl w.heap.size 0 (idL.map (Value.float .f64)).toArray rfl rfl T0.out E2.out (one16 idL) ?_))
      refine bodyPost_ret (v := .agg (idL.map (Value.float .f64)).toArray) (ret_row Try.prog Try.results87 rfl (idL.map (Value.float .f64)) T0.out Try.underlying80 rfl E1.out) rfl ⟨rfl, BB.out⟩
end Go.Proofs.Ytelalledjbeenaa
