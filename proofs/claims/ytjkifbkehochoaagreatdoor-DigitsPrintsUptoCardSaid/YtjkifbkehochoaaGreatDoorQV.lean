/- galleyref03: value. -/
import Derived.Test.YtjkifbkehochoaaGreatDoorQS
import Derived.Test.YtjkifbkehochoaaGreatDoorAcc
namespace Go.Proofs.YtjkifbkehochoaaGreatDoor.R
open Go.RowKit Fl

theorem size_setCells (w : World) (b o : Nat) (vs : List Value) : (w.setCells b o vs).heap.size = w.heap.size := by
  induction vs generalizing o w with
  | nil => rfl
  | cons v r ih => rw [World.setCells, ih]; simp
theorem size79b (va vb : Value) : (Tryz.prog.info? 79).map (·.size) = some (#[va, vb] : Array Value).size := by kernel_rfl
/-- a block of two cells stays there -/
theorem there2 {w wx : World} (h : Below (w.alloc (.cells #[.slice none 0 0, .slice none 0 0] 79)).heap.size (w.alloc (.cells #[.slice none 0 0, .slice none 0 0] 79)) wx) : wx.there w.heap.size 0 2 := fun j hj => by
  rw [h.cell (p := ⟨w.heap.size, 0 + j, none⟩) (by simp), h.frozen (p := ⟨w.heap.size, 0 + j, none⟩) (by simp)]
  match j, hj with
  | 0, _ => simp [go_sem]
  | 1, _ => simp [go_sem]
theorem slice_one {w : World} {v : Value} {x : Nat} (h : NV w v x) : v.oneCell' = true := by
  obtain ⟨l, h, _, _⟩ := h
  obtain ⟨A, c, rfl⟩ := h.form
  rfl
theorem two_one {w w' : World} {va vb : Value} {x y : Nat} (ha : NV w va x) (hb : NV w' vb y) : (#[va, vb] : Array Value).all (·.oneCell') = true := by
  have h1 := slice_one ha
  have h2 := slice_one hb
  simp [h1, h2]
theorem NV.set {w : World} {v : Value} {x c : Nat} {l : List Value} (h : NV w v x) (hc : ∀ o z, w.cell? ⟨c, o, none⟩ ≠ some (.int .u32 z)) : NV (w.setCells c 0 l) v x := by
  obtain ⟨ys, ⟨h1, h2⟩, h3, h4⟩ := h
  refine ⟨ys, ⟨h1, ?_⟩, h3, h4⟩
  rcases h2 with h2 | ⟨b, o, cp, rfl, h5, h6, h7⟩
  · exact .inl h2
  · refine .inr ⟨b, o, cp, rfl, h5, h6, by rw [size_setCells]; exact h7.1, fun j z hj => ?_⟩
    have k := h7.2 j z hj
    refine (World.cell?_setCells_out _ _ _ _ _ (fun e _ => ?_)).trans k
    have e : b = c := e
    subst e
    exact absurd k (hc _ _)
theorem not_int {w wx : World} (h : Below (w.alloc (.cells #[.slice none 0 0, .slice none 0 0] 79)).heap.size (w.alloc (.cells #[.slice none 0 0, .slice none 0 0] 79)) wx) (o : Nat) (z : Int) : wx.cell? ⟨w.heap.size, o, none⟩ ≠ some (.int .u32 z) := by
  rw [h.cell (p := ⟨w.heap.size, o, none⟩) (by simp)]
  match o with
  | 0 => simp [go_sem]
  | 1 => simp [go_sem]
  | o + 2 => simp [go_sem]
theorem NV.blk_lt {w : World} {v : Value} {x : Nat} (h : NV w v x) {g : Nat} (hg : blk v = some g) : g < w.heap.size := by
  obtain ⟨l, ⟨_, h⟩, _, _⟩ := h
  rcases h with ⟨rfl, _⟩ | ⟨b, o, c, rfl, _, _, hA⟩
  · cases hg
  · cases hg; exact hA.1
theorem NV.slice {w : World} {v : Value} {x : Nat} (h : NV w v x) : ∃ A m c, v = .slice A m c := by
  obtain ⟨l, h, _, _⟩ := h
  obtain ⟨A, c, rfl⟩ := h.form
  exact ⟨_, _, _, rfl⟩
theorem below_new (w : World) (o : Obj) : Below w.heap.size w (w.alloc o) := (Below.refl _ _).alloc (Nat.le_refl _) _
def W79 (w : World) : World := w.alloc (.cells #[.slice none 0 0, .slice none 0 0] 79)
set_option maxRecDepth 100000 in
set_option maxHeartbeats 2000000 in
theorem cValueP {w : World} {v : Value} {x n L : Nat} (hv : NV w v x) (hL : L ≤ 9000) (h1 : x * 10 ^ n < BB ^ L) (hn : n ≤ 1000000) :
    Calls Tryz.prog 47 #[v, .int .i64 n] w fun e w' => Below w.heap.size w w' ∧ ∃ va vb, e = .returned (.agg #[va, vb]) ∧ NV w' va (x * 10 ^ n) ∧ NV w' vb 1 := by
  have B0 := Lib.hid (below_new w (.cells #[.slice none 0 0, .slice none 0 0] 79))
  have CT := Lib.hid (cTens (w := w.alloc (.cells #[.slice none 0 0, .slice none 0 0] 79)) (hv.below (below_new _ _)) (show L ≤ 10000 by omega) h1 hn)
  have CO := Lib.hid (fun w => cOf 1 w (by decide))
  have n0 : (0 : Int) ≤ (n : Int) := by omega
  clear hv hL h1 hn
  go_enter Tryz.func47, Tryz.ntmps47
  go_wp2_with (first
    | (go_at_call 90; refine CT.out.mono ?_; rintro e w2 ⟨hb, va, rfl, hva⟩; obtain ⟨A1, m1, c1, rfl⟩ := hva.slice; have J := Lib.hid hb; have KA := Lib.hid hva; clear hb hva)
    | (go_at_call 48; refine (CO.out _).mono ?_; rintro e w3 ⟨hb, vb, rfl, hvb, hg⟩; obtain ⟨A2, m2, c2, rfl⟩ := hvb.slice; have J2 := Lib.hid (J.out.trans (hb.mono J.out.size)); have KA2 := Lib.hid (KA.out.below hb); have KB := Lib.hid hvb; have T := Lib.hid (there2 J2.out); clear hb hvb hg)
    | (refine wpList_store_mid rfl 79 (.tmp 4) (.tmp 11) rfl w.heap.size 0 #[.slice A1 m1 c1, .slice A2 m2 c2] rfl rfl T.out (size79b _ _) (two_one KA2.out KB.out) ?_))
  have B1 := Lib.hid (below_setCells (B0.out.trans (J2.out.mono (by simp))) (Nat.le_refl w.heap.size) 0 [Value.slice A1 m1 c1, .slice A2 m2 c2])
  have K1 := Lib.hid (KA2.out.set (l := [Value.slice A1 m1 c1, .slice A2 m2 c2]) (not_int J2.out))
  have K2 := Lib.hid (KB.out.set (l := [Value.slice A1 m1 c1, .slice A2 m2 c2]) (not_int J2.out))
  exact bodyPost_ret (v := .agg #[.slice A1 m1 c1, .slice A2 m2 c2]) (results_cell1 Tryz.results47 rfl (run_loadVar_mid (P := Tryz.prog) _ _ 0 79 [Value.slice A1 m1 c1, .slice A2 m2 c2] _ (World.rangeAt_setCells_same _ _ _ _ T.out) Tryz.underlying79 rfl (size79 _ _))) rfl ⟨B1.out, _, _, rfl, K1.out, K2.out⟩
set_option maxRecDepth 100000 in
set_option maxHeartbeats 2000000 in
theorem cValueN {w : World} {v : Value} {x n L : Nat} (hv : NV w v x) (hL : L ≤ 9000) (h1 : 10 ^ n < BB ^ L) (hn : n ≤ 1000000) (hn0 : 0 < n) :
    Calls Tryz.prog 47 #[v, .int .i64 (-(n : Int))] w fun e w' => Below w.heap.size w w' ∧ ∃ va vb, e = .returned (.agg #[va, vb]) ∧ NV w' va x ∧ NV w' vb (10 ^ n) := by
  have B0 := Lib.hid (below_new w (.cells #[.slice none 0 0, .slice none 0 0] 79))
  have HV := Lib.hid (hv.below (below_new w (.cells #[.slice none 0 0, .slice none 0 0] 79)))
  have CO := Lib.hid (cOf 1 (w.alloc (.cells #[.slice none 0 0, .slice none 0 0] 79)) (by decide))
  have CT := Lib.hid (fun (wx : World) v (h : NV wx v 1) => show Calls Tryz.prog 90 #[v, .int .i64 n] wx fun e w' => Below wx.heap.size wx w' ∧ ∃ v', e = .returned v' ∧ NV w' v' (10 ^ n) from by
    have := cTens h (show L ≤ 10000 by omega) (by rw [Nat.one_mul]; exact h1) hn
    rw [Nat.one_mul] at this
    exact this)
  obtain ⟨A1, m1, c1, rfl⟩ := hv.slice
  have n0 : ¬ (0 : Int) ≤ -(n : Int) := by omega
  have n2 : IntKind.i64.wrap (- -(n : Int)) = (n : Int) := by rw [Int.neg_neg]; exact IntWalk.i64_in _ (by omega)
  have n3 : (n : Int) ≤ 1000000 := by omega
  clear hv hL h1 hn hn0
  go_enter Tryz.func47, Tryz.ntmps47
  go_wp2_with (first
    | (go_at_call 48; refine CO.out.mono ?_; rintro e w2 ⟨hb, v1, rfl, hv1, hg⟩; have J := Lib.hid hb; have KA := Lib.hid hv1; have KV := Lib.hid (HV.out.below hb); clear hb hv1 hg)
    | (go_at_call 90; refine (CT.out _ _ KA.out).mono ?_; rintro e w3 ⟨hb, vb, rfl, hvb⟩; obtain ⟨A2, m2, c2, rfl⟩ := hvb.slice; have J2 := Lib.hid (J.out.trans (hb.mono J.out.size)); have KA2 := Lib.hid (KV.out.below hb); have KB := Lib.hid hvb; have T := Lib.hid (there2 J2.out); clear hb hvb)
    | (refine wpList_store_mid rfl 79 (.tmp 4) (.tmp 17) rfl w.heap.size 0 #[.slice A1 m1 c1, .slice A2 m2 c2] rfl rfl T.out (size79b _ _) (two_one KA2.out KB.out) ?_))
  have B1 := Lib.hid (below_setCells (B0.out.trans (J2.out.mono (by simp))) (Nat.le_refl w.heap.size) 0 [Value.slice A1 m1 c1, .slice A2 m2 c2])
  have K1 := Lib.hid (KA2.out.set (l := [Value.slice A1 m1 c1, .slice A2 m2 c2]) (not_int J2.out))
  have K2 := Lib.hid (KB.out.set (l := [Value.slice A1 m1 c1, .slice A2 m2 c2]) (not_int J2.out))
  exact bodyPost_ret (v := .agg #[.slice A1 m1 c1, .slice A2 m2 c2]) (results_cell1 Tryz.results47 rfl (run_loadVar_mid (P := Tryz.prog) _ _ 0 79 [Value.slice A1 m1 c1, .slice A2 m2 c2] _ (World.rangeAt_setCells_same _ _ _ _ T.out) Tryz.underlying79 rfl (size79 _ _))) rfl ⟨B1.out, _, _, rfl, K1.out, K2.out⟩
end Go.Proofs.YtjkifbkehochoaaGreatDoor.R
