/- scene.Bounds: the walk. scene.Bounds of nothing; scene.in: the walk. scene.Hit: the walk. scene.Total: its drawn region, printed by gen_tt.py. -/
import Derived.Test.YtedkbjimofiphaaMgArA
import Derived.Test.YtedkbjimofiphaaArC
import Derived.Test.YtedkbjimofiphaaMgGeoE
import Derived.Test.YtedkbjimofiphaaMgInvC
import Derived.Test.YtedkbjimofiphaaMgPtH
namespace Go.Proofs.Ytedkbjimofiphaa
open Go.RowKit Fl
/-- the fold over all corners -/
def fq (f : Int → Int → Int) (z : Int) (g : Nat → Int) : Nat → Int
  | 0 => z
  | q + 1 => f (fq f z g q) (g q)
def xq (T : Nat → ITM) (q : Nat) : Int := cxP (T (q / 4)) (q % 4)
def yq (T : Nat → ITM) (q : Nat) : Int := cyP (T (q / 4)) (q % 4)
theorem xq_at (T : Nat → ITM) {i j : Nat} (h : j < 4) : xq T (4 * i + j) = cxP (T i) j := by unfold xq; rw [show (4 * i + j) / 4 = i by omega, show (4 * i + j) % 4 = j by omega]
theorem yq_at (T : Nat → ITM) {i j : Nat} (h : j < 4) : yq T (4 * i + j) = cyP (T i) j := by unfold yq; rw [show (4 * i + j) / 4 = i by omega, show (4 * i + j) % 4 = j by omega]
def bdL (T : Nat → ITM) (q : Nat) : Int := fq minP 9218868437227405312 (xq T) q
def bdT (T : Nat → ITM) (q : Nat) : Int := fq minP 9218868437227405312 (yq T) q
def bdR (T : Nat → ITM) (q : Nat) : Int := fq maxP (-9218868437227405313) (xq T) q
def bdB (T : Nat → ITM) (q : Nat) : Int := fq maxP (-9218868437227405313) (yq T) q
def Z23 : Array Value := (List.toArray (.int .u32 0 :: .int .u32 0 :: .float .f64 0 :: .float .f64 0 :: .float .f64 0 :: .float .f64 0 :: .float .f64 0 :: .float .f64 0 :: .float .f64 0 :: .float .f64 0 :: .float .f64 0 :: .float .f64 0 :: .float .f64 0 :: .float .f64 0 :: .float .f64 0 :: .float .f64 0 :: .float .f64 0 :: .float .f64 0 :: .float .f64 0 :: .float .f64 0 :: .float .f64 0 :: .float .f64 0 :: .float .f64 0 :: []))
structure BW (w wx : World) : Prop where
  t : wx.there w.heap.size 0 4
  lt : w.heap.size < wx.heap.size
  b : Below w.heap.size w wx
theorem BW.below {w wx wy : World} (h : BW w wx) (hb : Below wx.heap.size wx wy) : BW w wy :=
  ⟨there_below h.t hb h.lt, Nat.lt_of_lt_of_le h.lt hb.size, h.b.trans (hb.mono (Nat.le_of_lt h.lt))⟩
structure BV (x4 x5 x6 x7 : Nat) (T : Nat → ITM) (q : Nat) : Prop where
  l : RV x4 (bdL T q)
  t : RV x5 (bdT T q)
  r : RV x6 (bdR T q)
  b : RV x7 (bdB T q)
structure BI (w wx : World) (g10 g11 : Nat) (xs ys : List Nat) : Prop where
  w : BW w wx
  r10 : wx.rangeAt g10 0 (xs.map (Value.float .f64))
  r11 : wx.rangeAt g11 0 (ys.map (Value.float .f64))
  l10 : g10 < wx.heap.size
  l11 : g11 < wx.heap.size
theorem BI.below {w wx wy : World} {g10 g11 : Nat} {xs ys : List Nat} (h : BI w wx g10 g11 xs ys) (hb : Below wx.heap.size wx wy) : BI w wy g10 g11 xs ys :=
  ⟨h.w.below hb, range_below h.r10 hb h.l10, range_below h.r11 hb h.l11, Nat.lt_of_lt_of_le h.l10 hb.size, Nat.lt_of_lt_of_le h.l11 hb.size⟩
theorem RV_inf : RV 9218868437227405312 9218868437227405312 ∧ RV 18442240474082181120 (-9218868437227405313) := ⟨⟨by unfold U; decide, by decide⟩, ⟨by unfold U; decide, by decide⟩⟩
theorem new_item (w : World) {t : ITM} (ht : t.OK) : (w.alloc (.cells Z23 60)).there w.heap.size 0 t.cells.toArray.size ∧ Below w.heap.size w ((w.alloc (.cells Z23 60)).setCells w.heap.size 0 t.cells) ∧
    ((w.alloc (.cells Z23 60)).setCells w.heap.size 0 t.cells).rangeAt w.heap.size 0 t.cells ∧ ((w.alloc (.cells Z23 60)).setCells w.heap.size 0 t.cells).heap.size = w.heap.size + 1 := by
  have h := new_row w Z23 60 t.cells (by rw [ITM.len ht]; rfl)
  exact ⟨there_new w Z23 60 _ (by rw [show t.cells.toArray.size = 23 from by simp [ITM.len ht]]; rfl), h.1, h.2.1, h.2.2.2⟩
theorem item_sz {t : ITM} (ht : t.OK) : (Try.prog.info? 60).map (·.size) = some t.cells.toArray.size := by rw [List.size_toArray]; exact sz60 ht
theorem item_all (t : ITM) : t.cells.toArray.all (·.oneCell') = true := all_oneCell_toArray (ITM.one t)
theorem size33 : (Try.prog.info? 33).map (·.size) = some 4 := by kernel_rfl
set_option maxRecDepth 100000 in
set_option maxHeartbeats 4000000 in
theorem bounds39 (w : World) (g n c : Nat) (T : Nat → ITM) (hT : ∀ k, k < n → (T k).OK) (hn : n ≤ 1048576) (h0 : 0 < n) (hr : ∀ k, k < n → w.rangeAt g (k * 23) (T k).cells) (hg : g < w.heap.size) :
    Calls Try.prog 39 #[.slice (some ⟨g, 0, none⟩) n c] w fun e w' => (∃ a b r s, e = .returned (.tuple #[.agg #[.float .f64 a, .float .f64 b, .float .f64 r, .float .f64 s], .bool true]) ∧ RV a (bdL T (4 * n)) ∧ RV b (bdT T (4 * n)) ∧
      RV r (opP .sub (bdR T (4 * n)) (bdL T (4 * n))) ∧ RV s (opP .sub (bdB T (4 * n)) (bdT T (4 * n)))) ∧ Below w.heap.size w w' := by
  have H := Lib.hid (And.intro hT (And.intro hr hg))
  have hz : ((n : Int) == 0) = false := by
    cases e : ((n : Int) == 0)
    · rfl
    · exact absurd (eq_of_beq e) (by omega)
  clear hT hr hg
  have A0 := Lib.hid (show BW w (w.alloc (.cells #[.float .f64 0, .float .f64 0, .float .f64 0, .float .f64 0] 33)) from ⟨there_new w #[.float .f64 0, .float .f64 0, .float .f64 0, .float .f64 0] 33 4 rfl, by simp, (Below.refl w.heap.size w).alloc (Nat.le_refl _) _⟩)
  have V0 := Lib.hid (show BV 9218868437227405312 9218868437227405312 18442240474082181120 18442240474082181120 T (4 * 0) from ⟨RV_inf.1, RV_inf.1, RV_inf.2, RV_inf.2⟩)
  go_enter Try.func39, Try.ntmps39
  go_wp2_with (first
    | (go_at_call 49; (with_reducible refine (c137p _).mono ?_); rintro e w' ⟨rfl, rfl⟩)
    | (go_at_call 49; (with_reducible refine (c137n _).mono ?_); rintro e w' ⟨rfl, rfl⟩))
  go_loopw [4, 5, 6, 7, 23] (fun l4 l5 l6 l7 ii wx => ∃ (i x4 x5 x6 x7 : Nat), ii = .int .i64 (i : Int) ∧ l4 = .float .f64 x4 ∧ l5 = .float .f64 x5 ∧ l6 = .float .f64 x6 ∧ l7 = .float .f64 x7 ∧ i ≤ n ∧ Hid (BV x4 x5 x6 x7 T (4 * i)) ∧ Hid (BW w wx)) (fun _ _ _ _ ii _ => n - (intOf ii).toNat)
  case atStart => exact ⟨0, _, _, _, _, by go_num, rfl, rfl, rfl, rfl, by omega, V0, A0⟩
  case round =>
    obtain ⟨i, x4, x5, x6, x7, rfl, rfl, rfl, rfl, rfl, hin, hV, hW⟩ := hrel
    clear A0 V0
    by_cases hlt : i < n
    · have hii : (i : Int) < (n : Int) := by omega
      have di : decide ((i : Int) < (n : Int)) = true := decide_eq_true hii
      have OK := Lib.hid (H.out.1 i hlt)
      have RA := Lib.hid (range_below (H.out.2.1 i hlt) hW.out.b H.out.2.2)
      have SZ := Lib.hid (sz60 OK.out)
      have SA := Lib.hid (item_sz OK.out)
      have OA := Lib.hid (item_all (T i))
      have NI := Lib.hid (new_item wr OK.out)
      have CA := Lib.hid (fun w' => c41 w' (T i) OK.out)
      have HX := Lib.hid (And.intro (fun j (h : j < 4) => xq_at T (i := i) h) (fun j (h : j < 4) => yq_at T (i := i) h))
      generalize T i = t at *
      generalize htc : t.cells = tc at *
      clear htc
      go_upto_region 8 with (first
        | (refine wpList_load_mid rfl 60 (.tmp 25) rfl g (i * 23) rfl tc _ RA.out Try.underlying60 rfl SZ.out ?_)
        | (refine wpList_store_mid rfl 60 (.tmp 9) (.tmp 26) rfl wr.heap.size 0 tc.toArray rfl rfl NI.out.1 SA.out OA.out ?_))
      show Code.wp _ _ _ _ ((wr.alloc (.cells Z23 60)).setCells wr.heap.size 0 tc)
      obtain ⟨-, B1, r1, s1⟩ := NI.out
      have R1 := Lib.hid r1
      have W1 := Lib.hid (hW.out.below B1)
      clear r1 NI RA SA OA B1 s1
      generalize (wr.alloc (.cells Z23 60)).setCells wr.heap.size 0 tc = w1 at *
      generalize wr.heap.size = p9 at *
      go_wp2_with (refine wpList_load_mid rfl 60 (.tmp 9) rfl p9 0 rfl tc _ R1.out Try.underlying60 rfl SZ.out ?_)
      go_at_call 41
      refine (CA.out _).mono fun e w2 ⟨⟨xs, ys, he, lx, ly, fx, fy⟩, hb2⟩ => ?_
      subst he
      have TR := Lib.hid (two_rows20 w2 (xs.map (Value.float .f64)) (ys.map (Value.float .f64)) (by rw [List.length_map]; exact lx) (by rw [List.length_map]; exact ly))
      have FX := Lib.hid (And.intro lx (And.intro ly (And.intro fx fy)))
      have SX := Lib.hid (show (Try.prog.info? 102).map (·.size) = some (xs.map (Value.float .f64)).toArray.size by rw [List.size_toArray]; exact size102 lx)
      have SY := Lib.hid (show (Try.prog.info? 102).map (·.size) = some (ys.map (Value.float .f64)).toArray.size by rw [List.size_toArray]; exact size102 ly)
      have W2 := Lib.hid (W1.out.below hb2)
      clear lx ly fx fy hb2 CA R1 W1 SZ
      go_upto_region 9 with (first
        | (refine wpList_store_mid rfl 102 (.tmp 10) (.tmp 30) rfl w2.heap.size 0 (xs.map (Value.float .f64)).toArray rfl rfl TR.out.1 SX.out (oneF xs) ?_)
        | (refine wpList_store_mid rfl 102 (.tmp 11) (.tmp 31) rfl (w2.heap.size + 1) 0 (ys.map (Value.float .f64)).toArray rfl rfl TR.out.2.1 SY.out (oneF ys) ?_))
      obtain ⟨-, -, a3, a4, bb, sz⟩ := TR.out
      generalize (((w2.alloc (.cells #[.float .f64 0, .float .f64 0, .float .f64 0, .float .f64 0] 102)).alloc (.cells #[.float .f64 0, .float .f64 0, .float .f64 0, .float .f64 0] 102)).setCells w2.heap.size 0 (xs.map (Value.float .f64))).setCells (w2.heap.size + 1) 0 (ys.map (Value.float .f64)) = w5 at *
      have I0 := Lib.hid (show BI w w5 w2.heap.size (w2.heap.size + 1) xs ys from ⟨W2.out.below bb, a3, a4, by omega, by omega⟩)
      have V0 : Hid (BV x4 x5 x6 x7 T (4 * i + 0)) := hV
      clear TR SX SY a3 a4 bb sz W2 hV hW
      generalize w2.heap.size + 1 = g11 at *
      generalize w2.heap.size = g10 at *
      go_wp2_with fail
      go_loopw [4, 5, 6, 7, 12, 32] (fun l4 l5 l6 l7 _ jj wx => ∃ (j x4 x5 x6 x7 : Nat), jj = .int .i64 (j : Int) ∧ l4 = .float .f64 x4 ∧ l5 = .float .f64 x5 ∧ l6 = .float .f64 x6 ∧ l7 = .float .f64 x7 ∧ j ≤ 4 ∧ Hid (BV x4 x5 x6 x7 T (4 * i + j)) ∧ Hid (BI w wx g10 g11 xs ys)) (fun _ _ _ _ _ jj _ => 4 - (intOf jj).toNat)
      case atStart => exact ⟨0, _, _, _, _, by go_num, rfl, rfl, rfl, rfl, by omega, V0, I0⟩
      case round =>
        obtain ⟨j, y4, y5, y6, y7, rfl, rfl, rfl, rfl, rfl, hj, hU, hI⟩ := hrel
        clear V0 I0
        by_cases hl4 : j < 4
        · have hjj : (j : Int) < 4 := by omega
          have dj : decide ((j : Int) < 4) = true := decide_eq_true hjj
          obtain ⟨lx, ly, fx, fy⟩ := FX.out
          go_upto_region 12 with fail
          refine breg12 _ g10 j y4 y6 xs _ _ _ _ _ _ _ _ _ _ _ _ _ _ _ _ _ _ _ _ _ _ _ _ _ _ _ _ _ _ _ _ _ _ _ _ _ _ _ _ _ _ _ _ _ _ _ _ _ _ _ _ _ _ _ _ _ _ _ _ _ _ _ _ _ hI.out.r10 lx hI.out.l10 hl4 hU.out.l hU.out.r (fx j hl4) (fun v35 v36 v37 v38 v39 v40 v41 v42 v43 v44 a b w6 hb ha hb' => ?_)
          have J6 := Lib.hid (hI.out.below hb)
          have A6 := Lib.hid ha
          have B6 := Lib.hid hb'
          clear hb ha hb' hI
          go_upto_region 13 with fail
          refine breg13 _ g11 j y5 y7 ys _ _ _ _ _ _ _ _ _ _ _ _ _ _ _ _ _ _ _ _ _ _ _ _ _ _ _ _ _ _ _ _ _ _ _ _ _ _ _ _ _ _ _ _ _ _ _ _ _ _ _ _ _ _ _ _ _ _ _ _ _ _ _ _ _ J6.out.r11 ly J6.out.l11 hl4 hU.out.t hU.out.b (fy j hl4) (fun v45 v46 v47 v48 v49 v50 v51 v52 v53 v54 a2 b2 w7 hb ha hb' => ?_)
          have J7 := Lib.hid (J6.out.below hb)
          have V7 := Lib.hid (show BV a a2 b b2 T (4 * i + (j + 1)) from ⟨by show RV a (minP _ (xq T (4 * i + j))); rw [HX.out.1 j hl4]; exact A6.out, by show RV a2 (minP _ (yq T (4 * i + j))); rw [HX.out.2 j hl4]; exact ha, by show RV b (maxP _ (xq T (4 * i + j))); rw [HX.out.1 j hl4]; exact B6.out, by show RV b2 (maxP _ (yq T (4 * i + j))); rw [HX.out.2 j hl4]; exact hb'⟩)
          clear hb ha hb' J6 A6 B6 hU lx ly fx fy
          go_wp2_with fail
          go_roundw
          case rel => exact ⟨j + 1, _, _, _, _, by go_num, rfl, rfl, rfl, rfl, by omega, V7, J7⟩
          case measure => simp [intOf]; omega
        · have e4 : j = 4 := by omega
          subst e4
          have V4 : Hid (BV y4 y5 y6 y7 T (4 * (i + 1))) := Lib.hid (by rw [show 4 * (i + 1) = 4 * i + 4 by omega]; exact hU.out)
          have W4 := Lib.hid hI.out.w
          clear hU hI FX HX OK
          go_wp2_with fail
          go_roundw
          case rel => exact ⟨i + 1, _, _, _, _, by go_num, rfl, rfl, rfl, rfl, by omega, V4, W4⟩
          case measure => simp [intOf]; omega
    · have e1 : i = n := by omega
      subst e1
      have di : decide ((i : Int) < (i : Int)) = false := decide_eq_false (by omega)
      have hS := fun x y w => run_fop (P := Try.prog) .sub rfl 31 x y w
      have TH := Lib.hid (show ∀ k, (wr.drewN k).there w.heap.size 0 4 from fun k => hW.out.t)
      have BB := Lib.hid (show ∀ k cs, Below w.heap.size w ((wr.drewN k).setCells w.heap.size 0 cs) from fun k cs => below_setCells (below_drewN hW.out.b) (Nat.le_refl _) 0 cs)
      have OV := Lib.hid (fun w1 w2 => And.intro (RV.fop .sub hV.out.r hV.out.l w1) (RV.fop .sub hV.out.b hV.out.t w2))
      have VV := Lib.hid hV.out
      clear hV hW
      go_wp2_with (refine wpList_store_mid rfl 33 (.tmp 2) (.tmp 65) rfl w.heap.size 0 _ rfl rfl (TH.out _) size33 (oneF [_, _, _, _]) ?_)
      refine bodyPost_ret (v := .tuple #[.agg _, .bool true]) (ret_row2 Try.prog Try.results39 rfl _ (TH.out _) Try.underlying33 rfl size33) rfl ?_
      exact ⟨⟨_, _, _, _, rfl, VV.out.l, VV.out.t, (OV.out wr wr).1, (OV.out wr _).2⟩, BB.out _ _⟩
end Go.Proofs.Ytedkbjimofiphaa

namespace Go.Proofs.Ytedkbjimofiphaa
open Go.RowKit Fl
set_option maxRecDepth 100000 in
set_option maxHeartbeats 2000000 in
theorem bounds39z (w : World) (p : Option Addr) (c : Nat) : Calls Try.prog 39 #[.slice p 0 c] w fun e w' => e = .returned (.tuple #[.agg #[.float .f64 0, .float .f64 0, .float .f64 0, .float .f64 0], .bool false]) ∧ Below w.heap.size w w' := by
  have T0 := Lib.hid (there_new w #[.float .f64 0, .float .f64 0, .float .f64 0, .float .f64 0] 33 4 rfl)
  have B0 := Lib.hid (below_setCells ((Below.refl w.heap.size w).alloc (Nat.le_refl _) (.cells #[.float .f64 0, .float .f64 0, .float .f64 0, .float .f64 0] 33)) (Nat.le_refl _) 0 [.float .f64 0, .float .f64 0, .float .f64 0, .float .f64 0])
  go_enter Try.func39, Try.ntmps39
  go_wp2_with (refine wpList_store_mid rfl 33 (.tmp 2) (.tmp 16) rfl w.heap.size 0 #[.float .f64 0, .float .f64 0, .float .f64 0, .float .f64 0] rfl rfl T0.out size33 (oneF [0, 0, 0, 0]) ?_)
  refine bodyPost_ret (v := .tuple #[.agg #[.float .f64 0, .float .f64 0, .float .f64 0, .float .f64 0], .bool false]) (ret_row2 Try.prog Try.results39 rfl [.float .f64 0, .float .f64 0, .float .f64 0, .float .f64 0] T0.out Try.underlying33 rfl size33) rfl ?_
  exact ⟨rfl, B0.out⟩
/-- is a point in an item, by places -/
def ivx (t : ITM) (X Y : Int) (i : Nat) : Int := rowP (invP (mp t.m)) i X Y 0 ONEP
def inP (t : ITM) (X Y : Int) : Bool := invOk (detP (mp t.m)) && hasP (pl t.x) (pl t.y) (pl t.w) (pl t.h) (opP .quo (ivx t X Y 0) (ivx t X Y 3)) (opP .quo (ivx t X Y 1) (ivx t X Y 3))
theorem rowP_congr {a b : Nat → Int} (h : ∀ j, j < 16 → a j = b j) {i : Nat} (hi : i < 4) (x y z u : Int) : rowP a i x y z u = rowP b i x y z u := by
  unfold rowP; rw [h i (by omega), h (4 + i) (by omega), h (8 + i) (by omega), h (12 + i) (by omega)]
theorem new_mat (w : World) {os : List Nat} (ho : MU os) : (w.alloc (.cells Z16 44)).there w.heap.size 0 (os.map (Value.float .f64)).toArray.size ∧ Below w.heap.size w ((w.alloc (.cells Z16 44)).setCells w.heap.size 0 (os.map (Value.float .f64))) ∧
    ((w.alloc (.cells Z16 44)).setCells w.heap.size 0 (os.map (Value.float .f64))).rangeAt w.heap.size 0 (os.map (Value.float .f64)) ∧ ((w.alloc (.cells Z16 44)).setCells w.heap.size 0 (os.map (Value.float .f64))).heap.size = w.heap.size + 1 := by
  have e : Z16.size = (os.map (Value.float .f64)).length := by rw [List.length_map, ho.1]; rfl
  have h := new_row w Z16 44 (os.map (Value.float .f64)) e
  exact ⟨there_new w Z16 44 _ (by rw [show (os.map (Value.float .f64)).toArray.size = 16 from by simp [ho.1]]; rfl), h.1, h.2.1, h.2.2.2⟩
set_option maxRecDepth 100000 in
set_option maxHeartbeats 4000000 in
theorem in40 (w : World) (t : ITM) (ht : t.OK) (x y : Nat) {X Y : Int} (hx : RV x X) (hy : RV y Y) : Calls Try.prog 40 #[.agg t.cells.toArray, .float .f64 x, .float .f64 y] w fun e w' => e = .returned (.bool (inP t X Y)) ∧ Below w.heap.size w w' := by
  obtain ⟨W0, hW0⟩ : ∃ W0, W0 = w.alloc (.cells t.cells.toArray 60) := ⟨_, rfl⟩
  have R0 : W0.rangeAt w.heap.size 0 t.cells := by rw [hW0]; exact range_new w _ 60
  have s0 : W0.heap.size = w.heap.size + 1 := by rw [hW0]; simp
  have B0 := Lib.hid (show Below w.heap.size w W0 by rw [hW0]; exact (Below.refl _ _).alloc (Nat.le_refl _) _)
  have RM := Lib.hid (ITM.rm R0)
  have RC := Lib.hid (show ∀ w', Below W0.heap.size W0 w' → w'.rangeAt w.heap.size 2 t.rc from fun w' h => range_below (show W0.rangeAt w.heap.size 2 t.rc from by have := ITM.rrc R0; rwa [Nat.zero_add] at this) h (by omega))
  have HX := Lib.hid (And.intro hx hy)
  have HT := Lib.hid ht
  have Z1 := Lib.hid (size80L t.m ht.m.1)
  have Z2 := Lib.hid (show (Try.prog.info? 33).map (·.size) = some t.rc.length from size33)
  have HW := Lib.hid (And.intro hW0 s0)
  clear hx hy ht R0 hW0 s0
  go_enter Try.func40, Try.ntmps40
  go_upto_region 1 with fail
  rw [← HW.out.1]
  go_wp2_with (refine wpList_load_mid rfl 44 (.tmp 11) rfl w.heap.size 6 rfl (t.m.map (Value.float .f64)) _ RM.out Try.underlying44 rfl Z1.out ?_)
  go_at_call 63
  refine (k97 HT.out.m W0).mono fun e w1 ⟨⟨os, he, hu, hj⟩, hb⟩ => ?_
  subst he
  have NM := Lib.hid (new_mat w1 hu)
  have SA := Lib.hid (size80A os hu.1)
  have S1 := Lib.hid (size80L os hu.1)
  have HJ := Lib.hid (And.intro hu hj)
  have HB := Lib.hid hb
  clear hu hj hb RM Z1
  cases hk : invOk (detP (mp t.m))
  · have HE : Hid (inP t X Y = false) := Lib.hid (by unfold inP; rw [hk]; rfl)
    have BF := Lib.hid (B0.out.trans ((HB.out.trans (NM.out.2.1.mono HB.out.size)).mono B0.out.size))
    clear hk
    go_wp2_with (refine wpList_store_mid rfl 44 (.tmp 7) (.tmp 14) rfl w1.heap.size 0 (os.map (Value.float .f64)).toArray rfl rfl NM.out.1 SA.out (one16 os) ?_)
    go_ret
    exact ⟨by rw [HE.out]; rfl, BF.out⟩
  · have HE : Hid (inP t X Y = hasP (pl t.x) (pl t.y) (pl t.w) (pl t.h) (opP .quo (ivx t X Y 0) (ivx t X Y 3)) (opP .quo (ivx t X Y 1) (ivx t X Y 3))) := Lib.hid (by unfold inP; rw [hk]; rfl)
    have JJ := Lib.hid (show ∀ i, i < 4 → rowP (mp os) i X Y 0 ONEP = ivx t X Y i from fun i hi => rowP_congr (fun j h => by rw [HJ.out.2 j h, hk, if_pos rfl]) hi _ _ _ _)
    clear hk
    go_upto_region 4 with (refine wpList_store_mid rfl 44 (.tmp 7) (.tmp 14) rfl w1.heap.size 0 (os.map (Value.float .f64)).toArray rfl rfl NM.out.1 SA.out (one16 os) ?_)
    show Code.wp _ _ _ _ ((w1.alloc (.cells Z16 44)).setCells w1.heap.size 0 (os.map (Value.float .f64)))
    obtain ⟨-, b2, r2, s2⟩ := NM.out
    have R2 := Lib.hid r2
    have B2 := Lib.hid (HB.out.trans (b2.mono HB.out.size))
    clear b2 r2 s2 NM SA HB
    generalize (w1.alloc (.cells Z16 44)).setCells w1.heap.size 0 (os.map (Value.float .f64)) = w2 at *
    generalize w1.heap.size = p7 at *
    go_wp2_with (refine wpList_load_mid rfl 44 (.tmp 7) rfl p7 0 rfl (os.map (Value.float .f64)) _ R2.out Try.underlying44 rfl S1.out ?_)
    go_at_call 64
    refine (k101 HJ.out.1 HX.out.1 HX.out.2 RV_zero RV_one _).mono ?_
    rintro e w3 ⟨⟨a0, a1, a2, a3, rfl, h0, h1, h2, h3⟩, hb3⟩
    have HA := Lib.hid (And.intro (show RV a0 (ivx t X Y 0) by rw [← JJ.out 0 (by omega)]; exact h0) (And.intro (show RV a1 (ivx t X Y 1) by rw [← JJ.out 1 (by omega)]; exact h1) (show RV a3 (ivx t X Y 3) by rw [← JJ.out 3 (by omega)]; exact h3)))
    have B3 := Lib.hid (B2.out.trans (hb3.mono B2.out.size))
    have NP := Lib.hid (new_row w3 #[.float .f64 0, .float .f64 0, .float .f64 0, .float .f64 0] 126 [.float .f64 a0, .float .f64 a1, .float .f64 a2, .float .f64 a3] rfl)
    have T3 := Lib.hid (there_new w3 #[.float .f64 0, .float .f64 0, .float .f64 0, .float .f64 0] 126 4 rfl)
    clear h0 h1 h2 h3 hb3 B2 R2 S1
    go_upto_region 5 with (refine wpList_store_mid rfl 126 (.tmp 9) (.tmp 22) rfl w3.heap.size 0 #[.float .f64 a0, .float .f64 a1, .float .f64 a2, .float .f64 a3] rfl rfl T3.out size60 (oneF [a0, a1, a2, a3]) ?_)
    obtain ⟨b4, r4, -, s4⟩ := NP.out
    have B4 := Lib.hid (B3.out.trans (b4.mono B3.out.size))
    have C4 := Lib.hid (cells4 r4)
    clear b4 r4 s4 NP T3 B3
    generalize (w3.alloc (.cells #[.float .f64 0, .float .f64 0, .float .f64 0, .float .f64 0] 126)).setCells w3.heap.size 0 [.float .f64 a0, .float .f64 a1, .float .f64 a2, .float .f64 a3] = w4 at *
    generalize w3.heap.size = p9 at *
    have R4 := Lib.hid (RC.out w4 B4.out)
    have hQ := fun x y w => run_fop (P := Try.prog) .quo rfl 31 x y w
    obtain ⟨c0, c1, c2, c3⟩ := C4.out
    have HQ := Lib.hid (fun v1 v2 => And.intro (RV.fop .quo HA.out.1 HA.out.2.2 v1) (RV.fop .quo HA.out.2.1 HA.out.2.2 v2))
    go_wp2_with (refine wpList_load_mid rfl 33 (.tmp 23) rfl w.heap.size 2 rfl t.rc _ R4.out Try.underlying33 rfl Z2.out ?_)
    go_at_call 65
    refine (k57 (RV.self HT.out.x) (RV.self HT.out.y) (RV.self HT.out.w) (RV.self HT.out.h) (HQ.out _ w4).1 (HQ.out w4 _).2 _).mono ?_
    rintro e w5 ⟨rfl, hb5⟩
    have BF := Lib.hid (B0.out.trans ((B4.out.trans ((show Below w4.heap.size w4 w5 from below_trans (below_drewN (Below.refl _ _)) hb5).mono B4.out.size)).mono B0.out.size))
    clear hb5
    go_wp2
    go_ret
    exact ⟨by rw [HE.out]; rfl, BF.out⟩
end Go.Proofs.Ytedkbjimofiphaa

namespace Go.Proofs.Ytedkbjimofiphaa
open Go.RowKit Fl
/-- the hits of the m uppermost of n items -/
def hitM (p : Nat → Bool) (n m : Nat) : List Nat := ((List.range n).reverse.take m).filter p
theorem hitM_step (p : Nat → Bool) {n k : Nat} (h : k < n) : hitM p n (n - k) = hitM p n (n - (k + 1)) ++ if p k then [k] else [] := by
  unfold hitM
  have e : n - k = (n - (k + 1)) + 1 := by omega
  have g : (List.range n).reverse[n - (k + 1)]? = some k := by
    rw [List.getElem?_reverse (by rw [List.length_range]; omega), List.length_range, show n - 1 - (n - (k + 1)) = k by omega, List.getElem?_range h]
  rw [e, List.take_add_one, g, List.filter_append]
  cases hk : p k <;> simp [hk]
def hitL (p : Nat → Bool) (n : Nat) : List Nat := (List.range n).reverse.filter p
theorem hitM_all (p : Nat → Bool) (n : Nat) : hitM p n (n - 0) = hitL p n := by
  unfold hitM hitL; rw [List.take_of_length_le (by simp)]
theorem hitM_none (p : Nat → Bool) (n : Nat) : hitM p n (n - n) = [] := by unfold hitM; rw [Nat.sub_self]; rfl
theorem hitM_len (p : Nat → Bool) (n m : Nat) : (hitM p n m).length ≤ n := by
  unfold hitM
  refine Nat.le_trans (List.length_filter_le _ _) ?_
  rw [List.length_take, List.length_reverse, List.length_range]; omega
structure HS (w0 w : World) (v : Value) (L : List Nat) (T : Nat → ITM) : Prop where
  o : w.ownsRow w0.heap.size 30 2 v L.length (L.flatMap fun k => (T k).nd)
  b : Below w0.heap.size w0 w
theorem HS.below {w0 w w' : World} {v : Value} {L : List Nat} {T : Nat → ITM} (h : HS w0 w v L T) (hb : Below w.heap.size w w') : HS w0 w' v L T :=
  ⟨owned_at h.o fun k _ hl => hb.block k hl, h.b.trans (hb.mono h.b.size)⟩
theorem HS.push {w0 w w1 w3 : World} {v v3 : Value} {L : List Nat} {T : Nat → ITM} {k : Nat} (h : HS w0 w v L T) (hb : Below w.heap.size w w1) (ho : w3.ownsRow w0.heap.size 30 2 v3 (L.length + 1) (L.flatMap (fun k => (T k).nd) ++ (T k).nd)) (hg : w1.grownBy w3 v.ownBlock) : HS w0 w3 v3 (L ++ [k]) T := by
  have h1 := h.below hb
  refine ⟨by rw [List.length_append, List.flatMap_append]; simpa using ho, h1.b.trans ?_⟩
  exact ((grown_keep h1.o hg h1.b.size (fun _ => False)).below _ (Nat.le_refl _) (fun _ _ h => h))
theorem nd_one (t : ITM) : ∀ u ∈ t.nd, u.oneCell' = true := fun u hu => by
  simp only [ITM.nd, List.mem_cons, List.not_mem_nil, or_false] at hu
  rcases hu with rfl | rfl <;> rfl
set_option maxRecDepth 100000 in
set_option maxHeartbeats 4000000 in
theorem hit18 (w : World) (g n c : Nat) (T : Nat → ITM) (x y : Nat) {X Y : Int} (hT : ∀ k, k < n → (T k).OK) (hn : n ≤ 1048576) (hr : ∀ k, k < n → w.rangeAt g (k * 23) (T k).cells) (hg : g < w.heap.size) (hx : RV x X) (hy : RV y Y) :
    Calls Try.prog 18 #[.slice (some ⟨g, 0, none⟩) n c, .float .f64 x, .float .f64 y] w fun e w' => ∃ v, e = .returned v ∧ HS w w' v (hitL (fun k => inP (T k) X Y) n) T := by
  have H := Lib.hid (And.intro hT (And.intro hr hg))
  have HX := Lib.hid (And.intro hx hy)
  obtain ⟨i0, hi0, hz0, hz1, hz2⟩ := info_parts info30
  have HI := Lib.hid (And.intro hi0 (And.intro hz0 (And.intro hz1 hz2)))
  have S0 := Lib.hid (show HS w (w.alloc (.cells #[] 30)) (.slice (some ⟨w.heap.size, 0, none⟩) 0 0) (hitM (fun k => inP (T k) X Y) n (n - n)) T from by
    rw [hitM_none]
    exact ⟨World.ownsRow_made w #[] 0 (Nat.le_refl _) (by unfold maxLen; omega) rfl, (Below.refl _ _).alloc (Nat.le_refl _) _⟩)
  clear hT hr hg hx hy hi0 hz0 hz1 hz2
  go_enter Try.func18, Try.ntmps18
  go_wp2_with fail
  go_loopw [7, 8] (fun vv kk wx => ∃ p : Nat, kk = .int .i64 ((p : Int) - 1) ∧ p ≤ n ∧ Hid (HS w wx vv (hitM (fun k => inP (T k) X Y) n (n - p)) T)) (fun _ kk _ => (intOf kk + 1).toNat)
  case atStart => exact ⟨n, rfl, Nat.le_refl _, S0⟩
  case round =>
    obtain ⟨p, rfl, hpn, hS⟩ := hrel
    clear S0
    cases p with
    | zero =>
      have e0 : ((0 : Nat) : Int) - 1 = -1 := rfl
      rw [e0]
      obtain ⟨pv, cv, rfl, -⟩ := owned_slice hS.out.o
      have HF := Lib.hid (show HS w wr _ (hitL (fun k => inP (T k) X Y) n) T from by have := hS.out; rw [hitM_all] at this; exact this)
      clear hS
      go_wp2
      go_ret
      exact ⟨_, rfl, by have h := HF.out; rw [hitM_all]; exact h⟩
    | succ k =>
      have e1 : ((k + 1 : Nat) : Int) - 1 = (k : Int) := by omega
      rw [e1]
      have hk0 : (0 : Int) ≤ (k : Int) := by omega
      have hkn : (k : Int) < (n : Int) := by omega
      have hlt : k < n := by omega
      obtain ⟨pv, cv, rfl, -⟩ := owned_slice hS.out.o
      have RA := Lib.hid (range_below (H.out.2.1 k hlt) hS.out.b H.out.2.2)
      have SZ := Lib.hid (sz60 (H.out.1 k hlt))
      have CI := Lib.hid (fun w' => in40 w' (T k) (H.out.1 k hlt) x y HX.out.1 HX.out.2)
      have LL := Lib.hid (hitM_len (fun k => inP (T k) X Y) n (n - (k + 1)))
      have ST := Lib.hid (hitM_step (fun k => inP (T k) X Y) hlt)
      go_upto_region 5 with fail
      go_wp2_with (refine wpList_load_mid rfl 60 (.tmp 19) rfl g (k * 23) rfl (T k).cells _ RA.out Try.underlying60 rfl SZ.out ?_)
      go_at_call 40
      refine (CI.out _).mono fun e w2 ⟨he, hb2⟩ => ?_
      subst he
      have S2 := Lib.hid (hS.out.below hb2)
      clear hb2 hS RA
      cases hk : inP (T k) X Y
      · have S3 : Hid (HS w w2 _ (hitM (fun k => inP (T k) X Y) n (n - k)) T) := Lib.hid (by rw [ST.out, hk]; simpa using S2.out)
        clear S2
        go_wp2
        go_roundw
        case rel => exact ⟨k, rfl, by omega, by simpa [ST.out, hk] using S3⟩
        case measure => simp [intOf]
      · have RN := Lib.hid (ITM.rnd (range_below (H.out.2.1 k hlt) S2.out.b H.out.2.2))
        have OA := Lib.hid (S2.out.o.alloc (.cells ([Value.agg (T k).nd.toArray].flatMap fun v => v.cells.toList).toArray 30))
        have NC := Lib.hid (new_row2 w2 (T k).nd 30)
        have ZB := Lib.hid S2.out.b.size
        go_wp2_with (first
          | (refine wpList_load_mid rfl 30 (.tmp 28) rfl g (k * 23) rfl (T k).nd _ RN.out Try.underlying30 rfl (by rw [HI.out.1]; exact congrArg some HI.out.2.2.1) ?_)
          | (refine Go.Great.wpList_buildRows rfl 37 30 #[(0, .tmp 29)] 2 [.agg (T k).nd.toArray] rfl (fun _ => 29) w2.heap.size rfl (some 30) rfl Try.underlying37 (by rw [HI.out.1]; exact congrArg some HI.out.2.2.1) (by rw [HI.out.1, Option.bind_some, HI.out.2.1]; rfl) (by decide) (Nat.succ_pos 0) (show 1 * 2 ≤ 2 ^ 24 by decide) rfl (fun v hv => by rw [List.mem_singleton.1 hv]; rfl) (fun k hk => by match k, hk with | 0, _ => rfl) ?_)
          | (at_builtin; refine wpList_append_strong rfl _ _ 37 rfl w.heap.size 30 i0 (.agg #[.int .u32 0, .int .u32 0]) 2 8 Try.underlying37 HI.out.1 HI.out.2.1 HI.out.2.2.1 HI.out.2.2.2 rfl (by decide) _ _ _ rfl OA.out ⟨w2.heap.size, 0, none⟩ 1 1 (T k).nd rfl ?c0 NC.out ?c2 ?c3 ?c4 ?c5 (by decide) ?_))
        case c0 => rfl
        case c2 => exact nd_one (T k)
        case c3 => have := LL.out; unfold maxLen; omega
        case c4 => have := LL.out; omega
        case c5 => have := ZB.out; simp; omega
        intro v3 w3 hown hgrow hblk
        have S3 : Hid (HS w w3 v3 (hitM (fun k => inP (T k) X Y) n (n - k)) T) := Lib.hid (by
          rw [ST.out, hk]
          exact S2.out.push ((Below.refl _ _).alloc (Nat.le_refl _) _) hown hgrow)
        obtain ⟨p3, c3, rfl, -⟩ := owned_slice hown
        clear hown hgrow hblk OA NC S2 RN
        go_wp2_with fail
        go_roundw
        case rel => exact ⟨k, rfl, by omega, S3⟩
        case measure => simp [intOf]
end Go.Proofs.Ytedkbjimofiphaa

namespace Go.Proofs.Ytedkbjimofiphaa
open Go.RowKit Fl
noncomputable def tr16 (n : Nat) : Code := (Try.f16.body.bind (findRegion n)).getD .skip
theorem rel_build0 {ops : Array Oper} {G : FuncId → Array Value → Value → Prop} {C : World → Prop} {Q : Act → Prop} {rest : List Oper} {a : Act} {dst : Option Tmp} {T : TypeId} {pos : String} {af : Array Edge} {gd : Option (Nat × Bool)} {parts : List (Nat × Operand)} {ty : TypeId} (vs : List (Nat × Value)) (cells : Array Value) (hv : parts.map (fun p => (p.1, a.eval p.2)) = vs) (hf : Try.prog.built ty vs = some cells)
    (hw : Region.wanted ⟨dst, .build ty parts.toArray, T, pos, af, gd⟩ (yielded ops a.tmps) = true) (k : wpRel Try.prog ops C G Q rest (a.put dst (.agg cells))) :
    wpRel Try.prog ops C G Q (⟨dst, .build ty parts.toArray, T, pos, af, gd⟩ :: rest) a :=
  rel_val hw (fun w hc => by
    unfold execOp
    have e : (parts.toArray.map fun (i, x) => (i, a.eval x)).toList = vs := by rw [← hv]; simp
    simp only [Sem.run_bind, run_build w ty _ cells (by rw [e]; exact hf), Result.andThen_ok]
    rfl) k
/-- what the two sums may answer -/
def TG (a3 a4 : Nat) (A B : Int) (_ : FuncId) (args : Array Value) (v : Value) : Prop := ∃ r : Nat, v = .float .f64 r ∧ (args = #[.pointer (some ⟨a3, 0, none⟩)] → RV r A) ∧ (args = #[.pointer (some ⟨a4, 0, none⟩)] → RV r B)
theorem size67 : (Try.prog.info? 67).map (·.size) = some 7 := by kernel_rfl
set_option maxRecDepth 100000 in
set_option maxHeartbeats 2000000 in
theorem treg10 {Q : Exit → Act → World → Prop} (w : World) (p : Option Addr) (n c r2 a3 a4 r8 : Nat) (s3 s4 : AS) (q0 q1 q2 q3 : Nat) (u1 u5 u6 u7 u9 u10 u11 u12 u13 u14 u15 u16 u17 u18 u19 u20 u21 u22 u23 u24 u25 u26 u27 u28 u29 u30 u31 u32 u33 u34 u35 u36 u37 u38 u39 u40 u41 u42 : Value) (h3 : AccAt w a3 s3) (h4 : AccAt w a4 s4) (l3 : a3 < w.heap.size) (l4 : a4 < w.heap.size) (ne : a3 ≠ a4) (z3 : -B2559 < s3.z ∧ s3.z < B2559) (z4 : -B2559 < s4.z ∧ s4.z < B2559)
    (t2 : w.there r2 0 7) (l2 : r2 < w.heap.size) (h8 : w.rangeAt r8 0 [.float .f64 q0, .float .f64 q1, .float .f64 q2, .float .f64 q3]) (l8 : r8 < w.heap.size)
    (hfin : ∀ (v35 v36 v37 v38 v39 v40 v41 v42 : Value) (a b : Nat) (w' : World), Below w.heap.size w w' → RV a (pV s3) → RV b (pV s4) → Q .normal ⟨List.toArray (.slice p n c :: u1 :: .pointer (some ⟨r2, 0, none⟩) :: .pointer (some ⟨a3, 0, none⟩) :: .pointer (some ⟨a4, 0, none⟩) :: u5 :: u6 :: u7 :: .pointer (some ⟨r8, 0, none⟩) :: u9 :: u10 :: u11 :: u12 :: u13 :: u14 :: u15 :: u16 :: u17 :: u18 :: u19 :: u20 :: u21 :: u22 :: u23 :: u24 :: u25 :: u26 :: u27 :: u28 :: u29 :: u30 :: u31 :: u32 :: u33 :: u34 :: v35 :: v36 :: v37 :: v38 :: v39 :: v40 :: v41 :: v42 :: []), []⟩ (w'.setCells r2 0 [.int .i64 (n : Int), .float .f64 a, .float .f64 b, .float .f64 q0, .float .f64 q1, .float .f64 q2, .float .f64 q3])) : Code.wp Try.prog (tr16 10) Q ⟨List.toArray (.slice p n c :: u1 :: .pointer (some ⟨r2, 0, none⟩) :: .pointer (some ⟨a3, 0, none⟩) :: .pointer (some ⟨a4, 0, none⟩) :: u5 :: u6 :: u7 :: .pointer (some ⟨r8, 0, none⟩) :: u9 :: u10 :: u11 :: u12 :: u13 :: u14 :: u15 :: u16 :: u17 :: u18 :: u19 :: u20 :: u21 :: u22 :: u23 :: u24 :: u25 :: u26 :: u27 :: u28 :: u29 :: u30 :: u31 :: u32 :: u33 :: u34 :: u35 :: u36 :: u37 :: u38 :: u39 :: u40 :: u41 :: u42 :: []), []⟩ w := by
  have HF := Lib.hid hfin
  have R8 := Lib.hid (show ∀ w', Below w.heap.size w w' → w'.rangeAt r8 0 [.float .f64 q0, .float .f64 q1, .float .f64 q2, .float .f64 q3] from fun w' hb => range_below h8 hb l8)
  have T2 := Lib.hid (show ∀ w', Below w.heap.size w w' → w'.there r2 0 7 from fun w' hb => there_below t2 hb l2)
  have K3 := Lib.hid (show ∀ w', Below w.heap.size w w' → Calls Try.prog 23 #[.pointer (some ⟨a3, 0, none⟩)] w' fun e w'' => ∃ v, e = .returned v ∧ TG a3 a4 (pV s3) (pV s4) 23 #[.pointer (some ⟨a3, 0, none⟩)] v ∧ Below w.heap.size w w'' from fun w' hb =>
    (c39 a3 s3 w' (h3.below hb l3) (Nat.lt_of_lt_of_le l3 hb.size) z3.1 z3.2).mono fun e w'' ⟨⟨r, he, h1, h2⟩, hb2⟩ => ⟨_, he, ⟨r, rfl, fun _ => ⟨h1, h2⟩, fun e => by injection e with e; injection e with e; injection e with e; injection e with e; injection e with e; exact absurd e ne⟩, below_trans hb hb2⟩)
  have K4 := Lib.hid (show ∀ w', Below w.heap.size w w' → Calls Try.prog 23 #[.pointer (some ⟨a4, 0, none⟩)] w' fun e w'' => ∃ v, e = .returned v ∧ TG a3 a4 (pV s3) (pV s4) 23 #[.pointer (some ⟨a4, 0, none⟩)] v ∧ Below w.heap.size w w'' from fun w' hb =>
    (c39 a4 s4 w' (h4.below hb l4) (Nat.lt_of_lt_of_le l4 hb.size) z4.1 z4.2).mono fun e w'' ⟨⟨r, he, h1, h2⟩, hb2⟩ => ⟨_, he, ⟨r, rfl, fun e => by injection e with e; injection e with e; injection e with e; injection e with e; injection e with e; exact absurd e.symm ne, fun _ => ⟨h1, h2⟩⟩, below_trans hb hb2⟩)
  clear hfin h8 l8 t2 l2 h3 h4 l3 l4 z3 z4
  conv => arg 2; whnf
  refine wp_region_rel 8 (fun w' => Below w.heap.size w w') (TG a3 a4 (pV s3) (pV s4)) (by kernel_rfl) (by kernel_rfl) ((Below.refl _ _).drew) ?_
  simp only [List.take_succ_cons, List.take_zero, List.drop_succ_cons, List.drop_zero]
  refine rel_val (v := .slice p n c) rfl (fun w' hw => rfl) ?_
  simp only [Act.put, List.setIfInBounds_toArray, List.set_cons_succ, List.set_cons_zero]
  refine rel_val (v := .int .i64 (n : Int)) rfl (fun w' hw => by go_simp) ?_
  simp only [Act.put, List.setIfInBounds_toArray, List.set_cons_succ, List.set_cons_zero]
  refine rel_val (v := .pointer (some ⟨a3, 0, none⟩)) rfl (fun w' hw => rfl) ?_
  simp only [Act.put, List.setIfInBounds_toArray, List.set_cons_succ, List.set_cons_zero]
  refine rel_call (f := 23) (args := #[.pointer (some ⟨a3, 0, none⟩)]) rfl (fun w' hw => by go_simp) (fun w' hw => K3.out w' hw) (fun v hv => ?_)
  obtain ⟨a, rfl, ha⟩ := hv
  replace ha := ha.1 rfl
  simp only [Act.put, List.setIfInBounds_toArray, List.set_cons_succ, List.set_cons_zero]
  refine rel_val (v := .pointer (some ⟨a4, 0, none⟩)) rfl (fun w' hw => rfl) ?_
  simp only [Act.put, List.setIfInBounds_toArray, List.set_cons_succ, List.set_cons_zero]
  refine rel_call (f := 23) (args := #[.pointer (some ⟨a4, 0, none⟩)]) rfl (fun w' hw => by go_simp) (fun w' hw => K4.out w' hw) (fun v hv => ?_)
  obtain ⟨b, rfl, hb⟩ := hv
  replace hb := hb.2 rfl
  simp only [Act.put, List.setIfInBounds_toArray, List.set_cons_succ, List.set_cons_zero]
  refine rel_load_row r8 0 [.float .f64 q0, .float .f64 q1, .float .f64 q2, .float .f64 q3] _ rfl rfl R8.out Try.underlying33 rfl size33 ?_
  simp only [Act.put, List.setIfInBounds_toArray, List.set_cons_succ, List.set_cons_zero]
  refine rel_build0 (parts := [(0, .tmp 36), (1, .tmp 38), (2, .tmp 40), (3, .tmp 41)]) [(0, .int .i64 (n : Int)), (1, .float .f64 a), (2, .float .f64 b), (3, .agg #[.float .f64 q0, .float .f64 q1, .float .f64 q2, .float .f64 q3])] #[.int .i64 (n : Int), .float .f64 a, .float .f64 b, .float .f64 q0, .float .f64 q1, .float .f64 q2, .float .f64 q3] rfl (by kernel_rfl) rfl ?_
  simp only [Act.put, List.setIfInBounds_toArray, List.set_cons_succ, List.set_cons_zero]
  refine rel_nil ?_
  intro w' hw
  have TT := Lib.hid (T2.out w' hw)
  have HH := Lib.hid (And.intro hw (And.intro ha hb))
  clear hw ha hb T2 R8 K3 K4
  refine wpList_store_mid rfl 67 (.tmp 2) (.tmp 42) rfl r2 0 #[.int .i64 (n : Int), .float .f64 a, .float .f64 b, .float .f64 q0, .float .f64 q1, .float .f64 q2, .float .f64 q3] rfl rfl TT.out size67 (by kernel_rfl) ?_
  go_wp2
  exact HF.out _ _ _ _ _ _ _ _ a b w' HH.out.1 HH.out.2.1 HH.out.2.2
end Go.Proofs.Ytedkbjimofiphaa
