/- Identity, Scale. Scale and its fellows: printed by geo8.py. The square root, Turn. Turn: printed by geo9.py. -/
import Derived.Test.YtelalledjbeenaaMgGeoG
import Derived.Laws.Externs
namespace Go.Proofs.Ytelalledjbeenaa
open Go.RowKit Fl

/-- the words of Identity, when so many ones are laid -/
def idK (k : Nat) : List Nat := (List.range 16).map fun j => if j % 5 = 0 ∧ j / 5 < k then 4607182418800017408 else 0
def idL : List Nat := idK 4
def z16 : List Nat := List.replicate 16 0
theorem range_set {W : World} {b n : Nat} {xs : List Nat} (h : W.rangeAt b 0 (xs.map (Value.float .f64))) (x : Nat) : (W.setCell ⟨b, n, none⟩ (.float .f64 x)).rangeAt b 0 ((xs.set n x).map (Value.float .f64)) := fun j v hj => by
  rw [Nat.zero_add]
  rw [List.getElem?_map, Option.map_eq_some_iff] at hj
  obtain ⟨y, hy, rfl⟩ := hj
  by_cases hjn : j = n
  · subst hjn
    have hl : j < xs.length := by have := (List.getElem?_eq_some_iff.1 hy).1; rwa [List.length_set] at this
    rw [List.getElem?_set_self hl] at hy
    injection hy with hy
    subst hy
    have h0 := h j _ (by rw [List.getElem?_map, List.getElem?_eq_getElem hl]; rfl)
    rw [Nat.zero_add] at h0
    exact World.cell?_setCell_same _ _ _ h0
  · rw [List.getElem?_set_ne (fun e => hjn e.symm)] at hy
    have h0 := h j (.float .f64 y) (by rw [List.getElem?_map, hy]; rfl)
    rw [Nat.zero_add] at h0
    exact (World.cell?_setCell_other _ _ _ _ (fun e => hjn (by injection e with _ e; exact e.symm))).trans h0
theorem one16 (xs : List Nat) : (xs.map (Value.float .f64)).toArray.all (·.oneCell') = true :=
  all_oneCell_toArray (fun v hv => by obtain ⟨x, _, rfl⟩ := List.mem_map.1 hv; rfl)
theorem size80L (xs : List Nat) (h : xs.length = 16) : (Try.prog.info? 80).map (·.size) = some (xs.map (Value.float .f64)).length := by rw [List.length_map, h]; exact size80
theorem size80A (xs : List Nat) (h : xs.length = 16) : (Try.prog.info? 80).map (·.size) = some (xs.map (Value.float .f64)).toArray.size := by rw [List.size_toArray]; exact size80L xs h
structure IdAt (wx w : World) (k : Nat) : Prop where
  r : wx.rangeAt (w.heap.size + 1) 0 ((idK k).map (Value.float .f64))
  t1 : wx.there (w.heap.size + 1) 0 16
  t0 : wx.there w.heap.size 0 16
  b : Below w.heap.size w wx
def Z16 : Array Value := #[.float .f64 0, .float .f64 0, .float .f64 0, .float .f64 0, .float .f64 0, .float .f64 0, .float .f64 0, .float .f64 0, .float .f64 0, .float .f64 0, .float .f64 0, .float .f64 0, .float .f64 0, .float .f64 0, .float .f64 0, .float .f64 0]
theorem Z16_size : Z16.size = 16 := rfl
theorem Z16_list : Z16 = (z16.map (Value.float .f64)).toArray := rfl
theorem id0 : (idK 0) = z16 := by decide
theorem id_step (k : Nat) (h : k < 4) : (idK k).set (5 * k) 4607182418800017408 = idK (k + 1) := by
  rcases (by omega : k = 0 ∨ k = 1 ∨ k = 2 ∨ k = 3) with rfl | rfl | rfl | rfl <;> decide
theorem id_start (w : World) : IdAt ((w.alloc (.cells Z16 80)).alloc (.cells Z16 80)) w 0 := by
  have e1 : (w.alloc (.cells Z16 80)).heap.size = w.heap.size + 1 := by simp
  refine ⟨?_, ?_, there_below (there_new w Z16 80 16 rfl) (Below.alloc (Below.refl _ _) (Nat.le_refl _) _) (by simp), ((Below.refl _ _).alloc (Nat.le_refl _) _).alloc (by simp) _⟩
  · have := range_new (w.alloc (.cells Z16 80)) (z16.map (Value.float .f64)) 80
    rw [e1, ← Z16_list, ← id0] at this
    exact this
  · have := there_new (w.alloc (.cells Z16 80)) Z16 80 16 rfl
    rwa [e1] at this
theorem IdAt.step {wx w : World} {k : Nat} (h : IdAt wx w k) (hk : k < 4) : IdAt (wx.setCell ⟨w.heap.size + 1, 5 * k, none⟩ (.float .f64 4607182418800017408)) w (k + 1) :=
  ⟨by rw [← id_step k hk]; exact range_set h.r _, there_set h.t1 _ _, there_set h.t0 _ _, h.b.setCell (by simp) _⟩
theorem below_set16 {w wx : World} (h : Below w.heap.size w wx) (vs : List Value) : Below w.heap.size w (wx.setCells w.heap.size 0 vs) := below_setCells h (Nat.le_refl _) 0 vs
set_option maxRecDepth 100000 in
set_option maxHeartbeats 2000000 in
theorem k87 (w : World) : Calls Try.prog 87 #[] w fun e w' => e = .returned (.agg (idL.map (Value.float .f64)).toArray) ∧ Below w.heap.size w w' := by
  have S0 := Lib.hid (id_start w)
  go_enter Try.func87, Try.ntmps87
  go_wp2_with fail
  go_loopw [3] (fun i wx => ∃ k : Nat, k ≤ 4 ∧ i = .int .i64 k ∧ Hid (IdAt wx w k)) (fun i _ => 4 - (intOf i).toNat)
  case atStart => exact ⟨0, by omega, rfl, S0⟩
  case round =>
    obtain ⟨k, hk, rfl, hI⟩ := hrel
    clear S0
    by_cases hlt : k < 4
    · have hki : (k : Int) < 4 := by omega
      have hk5 : 5 * (k : Int) < 16 := by omega
      have hk0 : (0 : Int) ≤ 5 * (k : Int) := by omega
      have HLT := Lib.hid hlt
      have st := store1 hI.out.t1 (o := 5 * k) (by omega) 4607182418800017408
      have I2 := Lib.hid (hI.out.step hlt)
      clear hlt
      go_wp2
      go_roundw
      case rel => exact ⟨k + 1, by have := HLT.out; omega, by go_num, I2⟩
      case measure => have := HLT.out; simp [intOf]; omega
    · have hki : ¬ (k : Int) < 4 := by omega
      have hk4 : k = 4 := by omega
      subst hk4
      have RR := Lib.hid hI.out.r
      have E1 := Lib.hid (size80L idL rfl)
      have E2 := Lib.hid (size80A idL rfl)
      have T0 : Hid (wr.there w.heap.size 0 (idL.map (Value.float .f64)).toArray.size) := Lib.hid hI.out.t0
      have BB := Lib.hid (below_set16 hI.out.b (idL.map (Value.float .f64)))
      clear hlt hk hI
      go_wp2_with (first
        | (refine wpList_load_mid rfl 80 (.tmp 1) rfl (w.heap.size + 1) 0 rfl (idL.map (Value.float .f64)) _ RR.out Try.underlying80 rfl E1.out ?_)
        | (refine wpList_store_mid rfl 80 (.tmp 0) (.tmp 10) rfl w.heap.size 0 (idL.map (Value.float .f64)).toArray rfl rfl T0.out E2.out (one16 idL) ?_))
      refine bodyPost_ret (v := .agg (idL.map (Value.float .f64)).toArray) (ret_row Try.prog Try.results87 rfl (idL.map (Value.float .f64)) T0.out Try.underlying80 rfl E1.out) rfl ⟨rfl, BB.out⟩
end Go.Proofs.Ytelalledjbeenaa

namespace Go.Proofs.Ytelalledjbeenaa
open Go.RowKit Fl

theorem stored16 (w2 : World) (vs : List Value) : Below w2.heap.size w2 ((w2.alloc (.cells Z16 80)).setCells w2.heap.size 0 vs) := below_setCells ((Below.refl _ _).alloc (Nat.le_refl _) _) (Nat.le_refl _) 0 vs

def scaleL (x y z : Nat) : List Nat := (((idL.set 0 x).set 5 y).set 10 z)
theorem scaleL_MU {x y z : Nat} (hx : U x) (hy : U y) (hz : U z) : MU (scaleL x y z) := ⟨rfl, fun u hu => by
  have h1 : u ∈ [x, y, z, 0, 4607182418800017408] := by
    have : ∀ v ∈ (scaleL x y z), v ∈ [x, y, z, 0, 4607182418800017408] := by
      intro v hv
      simp [scaleL, idL, idK, List.range, List.range.loop] at hv
      simp only [List.mem_cons, List.not_mem_nil, or_false]
      omega
    exact this u hu
  simp only [List.mem_cons, List.not_mem_nil, or_false] at h1
  rcases h1 with rfl | rfl | rfl | rfl | rfl
  · exact hx
  · exact hy
  · exact hz
  · unfold U; decide
  · unfold U; decide⟩
set_option maxRecDepth 100000 in
set_option maxHeartbeats 2000000 in
theorem k91 (x y z : Nat) (w : World) : Calls Try.prog 91 #[.float .f64 x, .float .f64 y, .float .f64 z] w fun e w' => e = .returned (.agg ((scaleL x y z).map (Value.float .f64)).toArray) ∧ Below w.heap.size w w' := by
  have T0 := Lib.hid (there_new w Z16 80 16 rfl)
  have B0 := Lib.hid ((Below.refl w.heap.size w).alloc (Nat.le_refl _) (.cells Z16 80))
  have E2 := Lib.hid (size80A idL rfl)
  have O2 := Lib.hid (one16 idL)
  go_enter Try.func91, Try.ntmps91
  go_wp2_with fail
  refine (k87 _).mono ?_
  rintro e w2 ⟨rfl, hb⟩
  have T2 := Lib.hid (there_below T0.out hb (by simp))
  have B2 := Lib.hid (B0.out.trans (hb.mono B0.out.size))
  have L2 := Lib.hid (show w.heap.size < w2.heap.size by have := hb.size; simp at this; omega)
  have N2 := Lib.hid (show (w2.alloc (.cells Z16 80)).there w2.heap.size 0 (idL.map (Value.float .f64)).toArray.size from there_new w2 Z16 80 16 rfl)
  have TA : ((w2.alloc (.cells Z16 80)).setCells w2.heap.size 0 (idL.map (Value.float .f64))).there w2.heap.size 0 16 := World.there_setCells (there_new w2 Z16 80 16 rfl) _ _ _
  have RA : ((w2.alloc (.cells Z16 80)).setCells w2.heap.size 0 (idL.map (Value.float .f64))).rangeAt w2.heap.size 0 (idL.map (Value.float .f64)) := World.rangeAt_setCells_same _ _ _ _ (there_new w2 Z16 80 16 rfl)
  have BA : Below w2.heap.size w2 ((w2.alloc (.cells Z16 80)).setCells w2.heap.size 0 (idL.map (Value.float .f64))) := stored16 w2 _
  obtain ⟨W1, hW1⟩ : ∃ W1, W1 = ((w2.alloc (.cells Z16 80)).setCells w2.heap.size 0 (idL.map (Value.float .f64))) := ⟨_, rfl⟩
  rw [← hW1] at TA RA BA
  have st0 := store1 TA (o := 0) (by decide) x
  have T0x := there_set TA ⟨w2.heap.size, 0, none⟩ (.float .f64 x)
  have R0x := range_set (n := 0) RA x
  have B0x := BA.setCell (p := ⟨w2.heap.size, 0, none⟩) (Nat.le_refl _) (.float .f64 x)
  have st1 := store1 T0x (o := 5) (by decide) y
  have T1x := there_set T0x ⟨w2.heap.size, 5, none⟩ (.float .f64 y)
  have R1x := range_set (n := 5) R0x y
  have B1x := B0x.setCell (p := ⟨w2.heap.size, 5, none⟩) (Nat.le_refl _) (.float .f64 y)
  have st2 := store1 T1x (o := 10) (by decide) z
  have T2x := there_set T1x ⟨w2.heap.size, 10, none⟩ (.float .f64 z)
  have R2x := range_set (n := 10) R1x z
  have B2x := B1x.setCell (p := ⟨w2.heap.size, 10, none⟩) (Nat.le_refl _) (.float .f64 z)
  have RF : Hid ((((W1.setCell ⟨w2.heap.size, 0, none⟩ (.float .f64 x)).setCell ⟨w2.heap.size, 5, none⟩ (.float .f64 y)).setCell ⟨w2.heap.size, 10, none⟩ (.float .f64 z)).rangeAt w2.heap.size 0 ((scaleL x y z).map (Value.float .f64))) := Lib.hid R2x
  have TF : Hid ((((W1.setCell ⟨w2.heap.size, 0, none⟩ (.float .f64 x)).setCell ⟨w2.heap.size, 5, none⟩ (.float .f64 y)).setCell ⟨w2.heap.size, 10, none⟩ (.float .f64 z)).there w.heap.size 0 16) := Lib.hid (there_below T2.out B2x L2.out)
  have BF : Hid (Below w.heap.size w (((W1.setCell ⟨w2.heap.size, 0, none⟩ (.float .f64 x)).setCell ⟨w2.heap.size, 5, none⟩ (.float .f64 y)).setCell ⟨w2.heap.size, 10, none⟩ (.float .f64 z))) := Lib.hid (B2.out.trans (B2x.mono (Nat.le_of_lt L2.out)))
  have E3 := Lib.hid (size80L (scaleL x y z) rfl)
  have E4 := Lib.hid (size80A (scaleL x y z) rfl)
  have O4 := Lib.hid (one16 (scaleL x y z))
  have HW1 := Lib.hid hW1
  clear TA RA BA hb hW1 T0x R0x B0x T1x R1x B1x T2x R2x B2x T2 B2 L2
  go_upto_region 2 with (refine wpList_store_mid rfl 80 (.tmp 7) (.tmp 8) rfl w2.heap.size 0 (idL.map (Value.float .f64)).toArray rfl rfl N2.out E2.out O2.out ?_)
  refine wp_gen (fun wx => wx = W1) HW1.out.symm ?_
  rintro wx rfl
  clear N2 E2 O2 HW1
  go_upto_region 3 with fail
  obtain ⟨W5, hW5⟩ : ∃ W5, W5 = (((wx.setCell ⟨w2.heap.size, 0, none⟩ (.float .f64 x)).setCell ⟨w2.heap.size, 5, none⟩ (.float .f64 y)).setCell ⟨w2.heap.size, 10, none⟩ (.float .f64 z)) := ⟨_, rfl⟩
  rw [← hW5] at RF TF BF
  refine wp_gen (fun wy => wy = W5) hW5.symm ?_
  rintro wy rfl
  clear hW5
  go_wp2_with (first
    | (refine wpList_load_mid rfl 80 (.tmp 7) rfl w2.heap.size 0 rfl ((scaleL x y z).map (Value.float .f64)) _ RF.out Try.underlying80 rfl E3.out ?_)
    | (refine wpList_store_mid rfl 80 (.tmp 6) (.tmp 15) rfl w.heap.size 0 ((scaleL x y z).map (Value.float .f64)).toArray rfl rfl TF.out E4.out O4.out ?_))
  refine bodyPost_ret (v := .agg ((scaleL x y z).map (Value.float .f64)).toArray) (ret_row Try.prog Try.results91 rfl ((scaleL x y z).map (Value.float .f64)) TF.out Try.underlying80 rfl E3.out) rfl ⟨rfl, below_set16 BF.out _⟩
end Go.Proofs.Ytelalledjbeenaa

namespace Go.Proofs.Ytelalledjbeenaa
open Go.RowKit Fl

/-- the place of a square root -/
def sqrtP (p : Int) : Int := match FloatKind.f64.format.sqrt (atW p) with | some r => pl r | none => 9223372036854775807
theorem sqrt_nan (x : Nat) (hx : U x) (hn : isN x = true) : FloatKind.f64.format.sqrt x = none := by
  show Ieee.double.sqrt x = none
  unfold Ieee.Format.sqrt
  rw [read_nan x hx.lt hn]; rfl
theorem U_sqrt (x r : Nat) (h : FloatKind.f64.format.sqrt x = some r) : U r := by
  have h : Ieee.double.sqrt x = some r := h
  unfold Ieee.Format.sqrt at h
  rw [Option.map_eq_some_iff] at h
  obtain ⟨d, _, rfl⟩ := h
  exact Ieee.Format.write_lt _ _
def onRoot (x : Nat) (o : Option Nat) : Sem Value := match o with | some r => pure (.float .f64 r) | none => do pure (.float .f64 (← choose (.nanBits .f64 x x)))
theorem onRoot_eq (x : Nat) : Extern.MathSqrt.sqrt #[.float .f64 x] = onRoot x (FloatKind.f64.format.sqrt x) := rfl
theorem x183 (x : Nat) (w : World) (hx : U x) : ∃ r n, (callFunc 183 #[.float .f64 x]).run Try.prog w = .ok (.value (.float .f64 r)) (w.drewN n) ∧ RV r (sqrtP (pl x)) := by
  rw [run_callFunc_extern (P := Try.prog) (f := 183) (fn := Try.f183) (e := Extern.MathSqrt.sqrt) (by kernel_rfl) (by kernel_rfl) (by kernel_rfl) (by kernel_rfl) (by kernel_rfl)]
  rw [onRoot_eq]
  unfold sqrtP
  by_cases hn : isN x = true
  · have h1 := sqrt_nan x hx hn
    have h2 := sqrt_nan _ U_atN isN_atW
    rw [pl_nan hn]
    unfold NP
    rw [h1, h2]
    exact ⟨(Question.nanBits .f64 x x).cut (w.tape w.drawn (Question.nanBits .f64 x x)), 1, rfl, (nanBits_cut _ _ _).1, pl_nan (nanBits_cut _ _ _).2⟩
  · have hn := Bool.eq_false_iff.2 hn
    rw [atW_pl x hx hn]
    cases h : FloatKind.f64.format.sqrt x with
    | some r =>
      exact ⟨r, 0, rfl, U_sqrt x r h, rfl⟩
    | none =>
      exact ⟨(Question.nanBits .f64 x x).cut (w.tape w.drawn (Question.nanBits .f64 x x)), 1, rfl, (nanBits_cut _ _ _).1, pl_nan (nanBits_cut _ _ _).2⟩
set_option maxRecDepth 100000 in
theorem k155 {x : Nat} {P : Int} (hx : RV x P) (w : World) : Calls Try.prog 155 #[.float .f64 x] w fun e w' => RetR (sqrtP P) e ∧ ∃ n, w' = w.drewN n := by
  obtain ⟨r, n, h, hr⟩ := x183 x w hx.1
  have HR : Hid (RV r (sqrtP P)) := Lib.hid (by rw [← hx.2]; exact hr)
  clear hr hx
  go_enter Try.func155, Try.ntmps155
  go_wp2
  go_ret
  exact ⟨⟨r, rfl, HR.out⟩, n, rfl⟩
end Go.Proofs.Ytelalledjbeenaa

namespace Go.Proofs.Ytelalledjbeenaa
open Go.RowKit Fl

def hypP (X Y : Int) : Int := sqrtP (opP .add (opP .mul X X) (opP .mul Y Y))
def turnL (c s : Nat) : List Nat := (((idL.set 0 c).set 1 s).set 4 (ng s)).set 5 c
def TurnR (X Y : Int) (e : Ending) : Prop := ∃ c s : Nat, e = .returned (.agg ((turnL c s).map (Value.float .f64)).toArray) ∧ RV c (opP .quo X (hypP X Y)) ∧ RV s (opP .quo Y (hypP X Y))
theorem turnL_MU {c s : Nat} (hc : U c) (hs : U s) : MU (turnL c s) := ⟨rfl, fun u hu => by
  have h1 : u ∈ [c, s, ng s, 0, 4607182418800017408] := by
    simp [turnL, idL, idK, List.range, List.range.loop] at hu
    simp only [List.mem_cons, List.not_mem_nil, or_false]
    omega
  simp only [List.mem_cons, List.not_mem_nil, or_false] at h1
  rcases h1 with rfl | rfl | rfl | rfl | rfl
  · exact hc
  · exact hs
  · exact U_ng hs
  · unfold U; decide
  · unfold U; decide⟩

set_option maxRecDepth 100000 in
set_option maxHeartbeats 2000000 in
theorem k93 {x y : Nat} {X Y : Int} (hx : RV x X) (hy : RV y Y) (w : World) :
    Calls Try.prog 93 #[.float .f64 x, .float .f64 y] w fun e w' => TurnR X Y e ∧ Below w.heap.size w w' := by
  have T0 := Lib.hid (there_new w Z16 80 16 rfl)
  have B0 := Lib.hid ((Below.refl w.heap.size w).alloc (Nat.le_refl _) (.cells Z16 80))
  have E2 := Lib.hid (size80A idL rfl)
  have O2 := Lib.hid (one16 idL)
  have HX := Lib.hid (And.intro hx hy)
  have hA := fun x y w => run_fop (P := Try.prog) .add rfl 24 x y w
  have hM := fun x y w => run_fop (P := Try.prog) .mul rfl 24 x y w
  have hQ := fun x y w => run_fop (P := Try.prog) .quo rfl 24 x y w
  have hneg : ∀ (b : Nat) (w : World), (Op.unary .neg (.float .f64 b)).run Try.prog w = .ok (.float .f64 (Op.negFloat .f64 b)) w := fun _ _ => rfl
  have LA := Lib.hid (show w.heap.size < (w.alloc (.cells Z16 80)).heap.size by simp)
  clear hx hy
  go_enter Try.func93, Try.ntmps93
  go_wp2_with fail
  refine (k155 (RV.fop .add (RV.fop .mul HX.out.1 HX.out.1 _) (RV.fop .mul HX.out.2 HX.out.2 _) _) _).mono ?_
  rintro e w1 ⟨⟨h, rfl, hh⟩, n, rfl⟩
  have HH := Lib.hid hh
  clear hh
  go_upto_region 2 with fail
  go_cut [6, 7] (fun c s wx => ∃ c' s' : Nat, c = .float .f64 c' ∧ s = .float .f64 s' ∧ Hid (RV c' (opP .quo X (hypP X Y)) ∧ RV s' (opP .quo Y (hypP X Y))) ∧ Hid (wx.there w.heap.size 0 16 ∧ Below w.heap.size w wx ∧ w.heap.size < wx.heap.size))
  case first =>
    go_wp2
    go_meet
    exact ⟨_, _, rfl, rfl, Lib.hid ⟨RV.fop .quo HX.out.1 HH.out _, RV.fop .quo HX.out.2 HH.out _⟩, Lib.hid ⟨T0.out, Bd B0.out _, LA.out⟩⟩
  case rest =>
  obtain ⟨c, s, rfl, rfl, hcs, hW⟩ := hcut
  have hsn := Lib.hid (show Op.negFloat .f64 s = ng s from rfl)
  go_wp2_with fail
  refine (k87 _).mono ?_
  rintro e w2 ⟨rfl, hb⟩
  have T2 := Lib.hid (there_below hW.out.1 hb hW.out.2.2)
  have B2 := Lib.hid (hW.out.2.1.trans (hb.mono (Nat.le_of_lt hW.out.2.2)))
  have L2 := Lib.hid (Nat.lt_of_lt_of_le hW.out.2.2 hb.size)
  have N2 := Lib.hid (show (w2.alloc (.cells Z16 80)).there w2.heap.size 0 (idL.map (Value.float .f64)).toArray.size from there_new w2 Z16 80 16 rfl)
  have TA : ((w2.alloc (.cells Z16 80)).setCells w2.heap.size 0 (idL.map (Value.float .f64))).there w2.heap.size 0 16 := World.there_setCells (there_new w2 Z16 80 16 rfl) _ _ _
  have RA : ((w2.alloc (.cells Z16 80)).setCells w2.heap.size 0 (idL.map (Value.float .f64))).rangeAt w2.heap.size 0 (idL.map (Value.float .f64)) := World.rangeAt_setCells_same _ _ _ _ (there_new w2 Z16 80 16 rfl)
  have BA : Below w2.heap.size w2 ((w2.alloc (.cells Z16 80)).setCells w2.heap.size 0 (idL.map (Value.float .f64))) := stored16 w2 _
  obtain ⟨W1, hW1⟩ : ∃ W1, W1 = ((w2.alloc (.cells Z16 80)).setCells w2.heap.size 0 (idL.map (Value.float .f64))) := ⟨_, rfl⟩
  rw [← hW1] at TA RA BA
  have st0 := store1 TA (o := 0) (by decide) c
  have T0x := there_set TA ⟨w2.heap.size, 0, none⟩ (.float .f64 c)
  have R0x := range_set (n := 0) RA c
  have B0x := BA.setCell (p := ⟨w2.heap.size, 0, none⟩) (Nat.le_refl _) (.float .f64 c)
  have st1 := store1 T0x (o := 1) (by decide) s
  have T1x := there_set T0x ⟨w2.heap.size, 1, none⟩ (.float .f64 s)
  have R1x := range_set (n := 1) R0x s
  have B1x := B0x.setCell (p := ⟨w2.heap.size, 1, none⟩) (Nat.le_refl _) (.float .f64 s)
  have st2 := store1 T1x (o := 4) (by decide) (Op.negFloat .f64 s)
  have T2x := there_set T1x ⟨w2.heap.size, 4, none⟩ (.float .f64 (Op.negFloat .f64 s))
  have R2x := range_set (n := 4) R1x (Op.negFloat .f64 s)
  have B2x := B1x.setCell (p := ⟨w2.heap.size, 4, none⟩) (Nat.le_refl _) (.float .f64 (Op.negFloat .f64 s))
  have st3 := store1 T2x (o := 5) (by decide) c
  have T3x := there_set T2x ⟨w2.heap.size, 5, none⟩ (.float .f64 c)
  have R3x := range_set (n := 5) R2x c
  have B3x := B2x.setCell (p := ⟨w2.heap.size, 5, none⟩) (Nat.le_refl _) (.float .f64 c)
  have RF : Hid (((((W1.setCell ⟨w2.heap.size, 0, none⟩ (.float .f64 c)).setCell ⟨w2.heap.size, 1, none⟩ (.float .f64 s)).setCell ⟨w2.heap.size, 4, none⟩ (.float .f64 (Op.negFloat .f64 s))).setCell ⟨w2.heap.size, 5, none⟩ (.float .f64 c)).rangeAt w2.heap.size 0 ((turnL c s).map (Value.float .f64))) := Lib.hid R3x
  have TF : Hid (((((W1.setCell ⟨w2.heap.size, 0, none⟩ (.float .f64 c)).setCell ⟨w2.heap.size, 1, none⟩ (.float .f64 s)).setCell ⟨w2.heap.size, 4, none⟩ (.float .f64 (Op.negFloat .f64 s))).setCell ⟨w2.heap.size, 5, none⟩ (.float .f64 c)).there w.heap.size 0 16) := Lib.hid (there_below T2.out B3x L2.out)
  have BF : Hid (Below w.heap.size w ((((W1.setCell ⟨w2.heap.size, 0, none⟩ (.float .f64 c)).setCell ⟨w2.heap.size, 1, none⟩ (.float .f64 s)).setCell ⟨w2.heap.size, 4, none⟩ (.float .f64 (Op.negFloat .f64 s))).setCell ⟨w2.heap.size, 5, none⟩ (.float .f64 c))) := Lib.hid (B2.out.trans (B3x.mono (Nat.le_of_lt L2.out)))
  have E3 := Lib.hid (size80L (turnL c s) rfl)
  have E4 := Lib.hid (size80A (turnL c s) rfl)
  have O4 := Lib.hid (one16 (turnL c s))
  have HW1 := Lib.hid hW1
  clear TA RA BA hb hW1 T0x R0x B0x T1x R1x B1x T2x R2x B2x T3x R3x B3x T2 B2 L2 hW
  go_upto_region 4 with (refine wpList_store_mid rfl 80 (.tmp 8) (.tmp 23) rfl w2.heap.size 0 (idL.map (Value.float .f64)).toArray rfl rfl N2.out E2.out O2.out ?_)
  refine wp_gen (fun wx => wx = W1) HW1.out.symm ?_
  rintro wx rfl
  clear N2 E2 O2 HW1
  go_upto_region 5 with fail
  obtain ⟨W5, hW5⟩ : ∃ W5, W5 = ((((wx.setCell ⟨w2.heap.size, 0, none⟩ (.float .f64 c)).setCell ⟨w2.heap.size, 1, none⟩ (.float .f64 s)).setCell ⟨w2.heap.size, 4, none⟩ (.float .f64 (Op.negFloat .f64 s))).setCell ⟨w2.heap.size, 5, none⟩ (.float .f64 c)) := ⟨_, rfl⟩
  rw [← hW5] at RF TF BF
  refine wp_gen (fun wy => wy = W5) hW5.symm ?_
  rintro wy rfl
  clear hW5
  go_wp2_with (first
    | (refine wpList_load_mid rfl 80 (.tmp 8) rfl w2.heap.size 0 rfl ((turnL c s).map (Value.float .f64)) _ RF.out Try.underlying80 rfl E3.out ?_)
    | (refine wpList_store_mid rfl 80 (.tmp 4) (.tmp 33) rfl w.heap.size 0 ((turnL c s).map (Value.float .f64)).toArray rfl rfl TF.out E4.out O4.out ?_))
  refine bodyPost_ret (v := .agg ((turnL c s).map (Value.float .f64)).toArray) (ret_row Try.prog Try.results93 rfl ((turnL c s).map (Value.float .f64)) TF.out Try.underlying80 rfl E3.out) rfl ⟨⟨c, s, rfl, hcs.out⟩, below_set16 BF.out _⟩
end Go.Proofs.Ytelalledjbeenaa
