/- Det: printed by geo13.py. Invert of a matrix that cannot be undone. -/
import Derived.Test.YtelalledjbeenaaRelS
import Derived.Test.YtelalledjbeenaaMgLdexp
namespace Go.Proofs.Ytelalledjbeenaa
open Go.RowKit Fl

def RB.D2 (s t n : Nat) : Nat → Option Nat := fun u => if u = s then some n else if u = t then some n else none
theorem RB.D2_or {s t n u m : Nat} (h : RB.D2 s t n u = some m) : u = s ∨ u = t := by
  unfold RB.D2 at h
  by_cases h1 : u = s
  · exact .inl h1
  · by_cases h2 : u = t
    · exact .inr h2
    · rw [if_neg h1, if_neg h2] at h; cases h
theorem RB.IA.at {D : Nat → Option Nat} {B : Nat} {a : Act} {w : World} (h : RB.IA D B a w) {t n b : Nat} (ht : D t = some n) (e : a.tmps.getD t undef = .pointer (some ⟨b, 0, none⟩)) : B ≤ b ∧ b < w.heap.size ∧ w.there b 0 n := by
  rcases h.h t n ht with e' | ⟨b', e', h1, h2, h3⟩
  · rw [e'] at e; exact absurd e (RB.undef_ne _)
  · rw [e'] at e
    injection e with e
    injection e with e
    injection e with e
    subst e
    exact ⟨h1, h2, h3⟩
theorem RB.IA.ne {D : Nat → Option Nat} {B : Nat} {a : Act} {w : World} (h : RB.IA D B a w) {t t' n n' b b' : Nat} (hne : t ≠ t') (ht : D t = some n) (ht' : D t' = some n') (e : a.tmps.getD t undef = .pointer (some ⟨b, 0, none⟩))
    (e' : a.tmps.getD t' undef = .pointer (some ⟨b', 0, none⟩)) : b ≠ b' := fun hb => h.d t t' n n' b hne ht ht' e (hb ▸ e')
/-- what the two minors may answer -/
def GMin (ms : List Nat) (f : FuncId) (args : Array Value) (v : Value) : Prop :=
  f = 156 → (args = #[.agg (ms.map (Value.float .f64)).toArray, .int .i64 0] → ∃ os : List Nat, v = .agg (os.map (Value.float .f64)).toArray ∧ MinS (minors0 (mp ms)) os 6) ∧
    (args = #[.agg (ms.map (Value.float .f64)).toArray, .int .i64 8] → ∃ os : List Nat, v = .agg (os.map (Value.float .f64)).toArray ∧ MinS (minors8 (mp ms)) os 6)
theorem ne08 (x : Value) : (#[x, .int .i64 0] : Array Value) ≠ #[x, .int .i64 8] := fun h => by injection h with h; injection h with _ h; injection h with h; injection h with _ h; cases h
theorem gMin0 {ms : List Nat} (hm : MU ms) (w : World) : Calls Try.prog 156 #[.agg (ms.map (Value.float .f64)).toArray, .int .i64 0] w fun e w' => ∃ v, e = .returned v ∧ GMin ms 156 #[.agg (ms.map (Value.float .f64)).toArray, .int .i64 0] v ∧ Below w.heap.size w w' :=
  (k156_0 hm w).mono fun e w' ⟨⟨os, he, hs⟩, hb⟩ => ⟨_, he, fun _ => ⟨fun _ => ⟨os, rfl, hs⟩, fun h => absurd h (ne08 _)⟩, hb⟩
theorem GMin0 {ms : List Nat} {v : Value} (h : GMin ms 156 #[.agg (ms.map (Value.float .f64)).toArray, .int .i64 0] v) : ∃ os : List Nat, v = .agg (os.map (Value.float .f64)).toArray ∧ MinS (minors0 (mp ms)) os 6 := (h rfl).1 rfl
theorem gMin8 {ms : List Nat} (hm : MU ms) (w : World) : Calls Try.prog 156 #[.agg (ms.map (Value.float .f64)).toArray, .int .i64 8] w fun e w' => ∃ v, e = .returned v ∧ GMin ms 156 #[.agg (ms.map (Value.float .f64)).toArray, .int .i64 8] v ∧ Below w.heap.size w w' :=
  (k156_8 hm w).mono fun e w' ⟨⟨os, he, hs⟩, hb⟩ => ⟨_, he, fun _ => ⟨fun h => absurd h.symm (ne08 _), fun _ => ⟨os, rfl, hs⟩⟩, hb⟩
theorem GMin8 {ms : List Nat} {v : Value} (h : GMin ms 156 #[.agg (ms.map (Value.float .f64)).toArray, .int .i64 8] v) : ∃ os : List Nat, v = .agg (os.map (Value.float .f64)).toArray ∧ MinS (minors8 (mp ms)) os 6 := (h rfl).2 rfl
theorem six {xs : List Nat} (h : xs.length = 6) : ∃ a b c d e f, xs = [a, b, c, d, e, f] := by
  match xs, h with
  | [a, b, c, d, e, f], _ => exact ⟨a, b, c, d, e, f, rfl⟩
theorem cells6 {w : World} {b : Nat} {v0 v1 v2 v3 v4 v5 : Nat} (h : w.rangeAt b 0 ([v0, v1, v2, v3, v4, v5].map (Value.float .f64))) :
    w.cell? ⟨b, 0, none⟩ = some (.float .f64 v0) ∧ w.cell? ⟨b, 1, none⟩ = some (.float .f64 v1) ∧ w.cell? ⟨b, 2, none⟩ = some (.float .f64 v2) ∧ w.cell? ⟨b, 3, none⟩ = some (.float .f64 v3) ∧ w.cell? ⟨b, 4, none⟩ = some (.float .f64 v4) ∧ w.cell? ⟨b, 5, none⟩ = some (.float .f64 v5) := by
  have k := fun j v hj => (Nat.zero_add j ▸ h j v hj : w.cell? ⟨b, j, none⟩ = some v)
  exact ⟨k 0 _ rfl, k 1 _ rfl, k 2 _ rfl, k 3 _ rfl, k 4 _ rfl, k 5 _ rfl⟩
def detP (m : Nat → Int) : Int :=
  opP .add (opP .sub (opP .add (opP .add (opP .sub (opP .mul (minors0 m 0) (minors8 m 5)) (opP .mul (minors0 m 1) (minors8 m 4))) (opP .mul (minors0 m 2) (minors8 m 3))) (opP .mul (minors0 m 3) (minors8 m 2))) (opP .mul (minors0 m 4) (minors8 m 1))) (opP .mul (minors0 m 5) (minors8 m 0))
set_option maxRecDepth 100000 in
set_option maxHeartbeats 2000000 in
theorem k103 {ms : List Nat} (hm : MU ms) (w : World) :
    Calls Try.prog 103 #[.agg (ms.map (Value.float .f64)).toArray] w fun e w' => RetR (detP (mp ms)) e ∧ Below w.heap.size w w' := by
  have HM := Lib.hid hm
  clear hm
  go_enter Try.func103, Try.ntmps103
  go_wp2_with fail
  refine wp_gen (fun wx => Hid (wx.rangeAt w.heap.size 0 (ms.map (Value.float .f64)) ∧ Below w.heap.size w wx ∧ w.heap.size < wx.heap.size)) (Lib.hid ⟨range_new w _ 80, (Below.refl _ _).alloc (Nat.le_refl _) _, by simp⟩) ?_
  intro wc hW
  have ra : ∀ w', Below wc.heap.size wc w' → w'.rangeAt w.heap.size 0 (ms.map (Value.float .f64)) := fun w' hw => range_below hW.out.1 hw hW.out.2.2
  refine RB.wp_region_alloc 6 (RB.D2 3 4 6) (GMin ms) (by kernel_rfl) (by kernel_rfl) (fun t n h => by rcases RB.D2_or h with rfl | rfl <;> rfl) ?_
  simp only [List.take_succ_cons, List.take_zero, List.drop_succ_cons, List.drop_zero]
  refine RB.rel_load_row (w.heap.size) 0 (ms.map (Value.float .f64)) _ rfl rfl rfl ra Try.underlying80 rfl (by rw [List.length_map, HM.out.1]; exact size80) ?_
  simp only [Act.put, List.setIfInBounds_toArray, List.set_cons_succ, List.set_cons_zero]
  refine RB.rel_call (f := 156) (args := #[.agg (ms.map (Value.float .f64)).toArray, .int .i64 0]) rfl rfl (fun w' hw => by go_simp) (fun w' hw => gMin0 HM.out w') (fun v hv => ?_)
  obtain ⟨ds, rfl, hds⟩ := GMin0 hv
  simp only [Act.put, List.setIfInBounds_toArray, List.set_cons_succ, List.set_cons_zero]
  refine RB.rel_load_row (w.heap.size) 0 (ms.map (Value.float .f64)) _ rfl rfl rfl ra Try.underlying80 rfl (by rw [List.length_map, HM.out.1]; exact size80) ?_
  simp only [Act.put, List.setIfInBounds_toArray, List.set_cons_succ, List.set_cons_zero]
  refine RB.rel_call (f := 156) (args := #[.agg (ms.map (Value.float .f64)).toArray, .int .i64 8]) rfl rfl (fun w' hw => by go_simp) (fun w' hw => gMin8 HM.out w') (fun v hv => ?_)
  obtain ⟨es, rfl, hes⟩ := GMin8 hv
  simp only [Act.put, List.setIfInBounds_toArray, List.set_cons_succ, List.set_cons_zero]
  refine RB.rel_alloc 6 #[.float .f64 0, .float .f64 0, .float .f64 0, .float .f64 0, .float .f64 0, .float .f64 0] rfl rfl rfl (fun w' => by go_simp) (fun b3 => ?_)
  simp only [Act.put, List.setIfInBounds_toArray, List.set_cons_succ, List.set_cons_zero]
  refine RB.rel_alloc 6 #[.float .f64 0, .float .f64 0, .float .f64 0, .float .f64 0, .float .f64 0, .float .f64 0] rfl rfl rfl (fun w' => by go_simp) (fun b4 => ?_)
  simp only [Act.put, List.setIfInBounds_toArray, List.set_cons_succ, List.set_cons_zero]
  refine RB.rel_nil ?_
  intro w3 hB3 hI
  have hx := hI.at (t := 3) (b := b3) rfl rfl
  have hy := hI.at (t := 4) (b := b4) rfl rfl
  have hne := hI.ne (t := 3) (t' := 4) (b := b3) (b' := b4) (by decide) rfl rfl rfl rfl
  have hd6 := hds.1
  have he6 := hes.1
  have hlx : b3 < w3.heap.size := hx.2.1
  have hly : b4 < w3.heap.size := hy.2.1
  have Tx := Lib.hid (thereA hx.2.2 hd6)
  have Ty0 := thereA hy.2.2 he6
  have Ty := Lib.hid (World.there_setCells Ty0 b3 0 (ds.map (Value.float .f64)))
  have E1 := Lib.hid (size152A ds hd6)
  have E2 := Lib.hid (size152A es he6)
  have WF : Hid (((w3.setCells b3 0 (ds.map (Value.float .f64))).setCells b4 0 (es.map (Value.float .f64))).rangeAt b3 0 (ds.map (Value.float .f64)) ∧ ((w3.setCells b3 0 (ds.map (Value.float .f64))).setCells b4 0 (es.map (Value.float .f64))).rangeAt b4 0 (es.map (Value.float .f64)) ∧ Below w.heap.size w ((w3.setCells b3 0 (ds.map (Value.float .f64))).setCells b4 0 (es.map (Value.float .f64)))) :=
    Lib.hid ⟨World.rangeAt_setCells_apart (World.rangeAt_setCells_same _ _ _ _ (thereL hx.2.2 hd6)) _ _ _ (.inl hne), World.rangeAt_setCells_same _ _ _ _ (World.there_setCells (thereL hy.2.2 he6) _ _ _),
      below_setCells (below_setCells (hW.out.2.1.trans (hB3.mono (Nat.le_of_lt hW.out.2.2))) (Nat.le_trans (Nat.le_of_lt hW.out.2.2) hx.1) 0 _) (Nat.le_trans (Nat.le_of_lt hW.out.2.2) hy.1) 0 _⟩
  clear hx hy hne hlx hly Ty0 hB3 hI hW ra
  go_upto_region 2 with (first
    | (refine wpList_store_mid rfl 152 (.tmp 3) (.tmp 7) rfl b3 0 (ds.map (Value.float .f64)).toArray rfl rfl Tx.out E1.out (one16 ds) ?_)
    | (refine wpList_store_mid rfl 152 (.tmp 4) (.tmp 9) rfl b4 0 (es.map (Value.float .f64)).toArray rfl rfl Ty.out E2.out (one16 es) ?_))
  refine wp_gen (fun wx => Hid (wx.rangeAt b3 0 (ds.map (Value.float .f64)) ∧ wx.rangeAt b4 0 (es.map (Value.float .f64)) ∧ Below w.heap.size w wx)) WF ?_
  intro wd hD
  clear WF Tx Ty E1 E2
  obtain ⟨d0, d1, d2, d3, d4, d5, rfl⟩ := six hd6
  obtain ⟨e0, e1, e2, e3, e4, e5, rfl⟩ := six he6
  have RD := Lib.hid hds.2
  have RE := Lib.hid hes.2
  obtain ⟨x0, x1, x2, x3, x4, x5⟩ := cells6 hD.out.1
  obtain ⟨y0, y1, y2, y3, y4, y5⟩ := cells6 hD.out.2.1
  have BD := Lib.hid (fun n => Bd hD.out.2.2 n)
  have hA := fun x y w => run_fop (P := Try.prog) .add rfl 24 x y w
  have hS := fun x y w => run_fop (P := Try.prog) .sub rfl 24 x y w
  have hM := fun x y w => run_fop (P := Try.prog) .mul rfl 24 x y w
  clear hds hes hd6 he6 hD
  go_wp2
  go_ret
  exact ⟨⟨_, rfl, (RV.fop .add (RV.fop .sub (RV.fop .add (RV.fop .add (RV.fop .sub (RV.fop .mul (show RV d0 _ from RD.out 0 (by decide)) (show RV e5 _ from RE.out 5 (by decide)) _) (RV.fop .mul (show RV d1 _ from RD.out 1 (by decide)) (show RV e4 _ from RE.out 4 (by decide)) _) _) (RV.fop .mul (show RV d2 _ from RD.out 2 (by decide)) (show RV e3 _ from RE.out 3 (by decide)) _) _) (RV.fop .mul (show RV d3 _ from RD.out 3 (by decide)) (show RV e2 _ from RE.out 2 (by decide)) _) _) (RV.fop .mul (show RV d4 _ from RD.out 4 (by decide)) (show RV e1 _ from RE.out 1 (by decide)) _) _) (RV.fop .mul (show RV d5 _ from RD.out 5 (by decide)) (show RV e0 _ from RE.out 0 (by decide)) _) _)⟩, BD.out _⟩
end Go.Proofs.Ytelalledjbeenaa

namespace Go.Proofs.Ytelalledjbeenaa
open Go.RowKit Fl

/-- sixteen words, the first k no numbers -/
def nanK (k : Nat) : List Nat := (List.range 16).map fun j => if j < k then QN else 0
theorem nanK_len (k : Nat) : (nanK k).length = 16 := by unfold nanK; rw [List.length_map, List.length_range]
theorem nan0 : nanK 0 = z16 := by decide
theorem nan_step (k : Nat) (h : k < 16) : (nanK k).set k QN = nanK (k + 1) := by
  rcases (by omega : k = 0 ∨ k = 1 ∨ k = 2 ∨ k = 3 ∨ k = 4 ∨ k = 5 ∨ k = 6 ∨ k = 7 ∨ k = 8 ∨ k = 9 ∨ k = 10 ∨ k = 11 ∨ k = 12 ∨ k = 13 ∨ k = 14 ∨ k = 15) with rfl | rfl | rfl | rfl | rfl | rfl | rfl | rfl | rfl | rfl | rfl | rfl | rfl | rfl | rfl | rfl <;> decide
structure NanAt (wx w : World) (g k : Nat) : Prop where
  r : wx.rangeAt g 0 ((nanK k).map (Value.float .f64))
  t : wx.there g 0 16
  t1 : wx.there (w.heap.size + 1) 0 16
  b : Below w.heap.size w wx
  l : w.heap.size + 1 < g
theorem nan_start {w2 w : World} {A : List Value} (h : One w2 w A 16) : NanAt (w2.alloc (.cells Z16 80)) w w2.heap.size 0 := by
  have h1 := one_below h (alloc_below w2 (.cells Z16 80))
  refine ⟨?_, there_new w2 Z16 80 16 rfl, h1.t, h1.b, h.lt⟩
  have := range_new w2 (z16.map (Value.float .f64)) 80
  rwa [← Z16_list, ← nan0] at this
theorem NanAt.step {wx w : World} {g k : Nat} (h : NanAt wx w g k) (hk : k < 16) : NanAt (wx.setCell ⟨g, k, none⟩ (.float .f64 QN)) w g (k + 1) :=
  ⟨by rw [← nan_step k hk]; exact range_set h.r _, there_set h.t _ _, there_set h.t1 _ _, h.b.setCell (by have := h.l; simp; omega) _, h.l⟩
set_option maxRecDepth 100000 in
set_option maxHeartbeats 2000000 in
/-- the determinant's class is zero -/
theorem k97z {ms : List Nat} (hm : MU ms) (hz : ∀ x, RV x (detP (mp ms)) → pCls x = 0) (w : World) :
    Calls Try.prog 97 #[.agg (ms.map (Value.float .f64)).toArray] w fun e w' => e = .returned (.tuple #[.agg ((nanK 16).map (Value.float .f64)).toArray, .bool false]) ∧ Below w.heap.size w w' := by
  have HM := Lib.hid hm
  have HZ := Lib.hid hz
  clear hm hz
  go_enter Try.func97, Try.ntmps97
  go_upto_region 1 with fail
  refine wp_gen (fun wx => Hid (One wx w (ms.map (Value.float .f64)) 16)) (Lib.hid (one_entry w (ms.map (Value.float .f64)) _ 80 80 16 rfl)) ?_
  intro wc hW
  have RR := Lib.hid hW.out.r1
  have E0 := Lib.hid (size80L ms HM.out.1)
  go_wp2_with (refine wpList_load_mid rfl 80 (.tmp 1) rfl w.heap.size 0 rfl (ms.map (Value.float .f64)) _ RR.out Try.underlying80 rfl E0.out ?_)
  refine (k103 HM.out _).mono ?_
  rintro e w2 ⟨⟨x, rfl, hx⟩, hb⟩
  have W2 := Lib.hid (one_below hW.out hb)
  have HX := Lib.hid hx
  clear hb hx hW RR
  go_wp2_with fail
  refine (c30 x _ HX.out.1).mono ?_
  rintro e w3 ⟨rfl, hb⟩
  unfold partsV
  rw [HZ.out x HX.out]
  generalize pNeg x = pn
  generalize pMant x = pm
  generalize pExp x = pe
  have hfd : ∀ w : World, (Instr.field 36 (.agg #[.bool pn, .int .i64 0, .int .u64 (pm : Nat), .int .i64 pe]) 1).run Try.prog w = .ok (.int .i64 0) w := fun _ => by kernel_rfl
  have W3 := Lib.hid (nan_start (one_below W2.out hb))
  clear hb W2
  go_upto_region 5 with fail
  clear hfd
  refine wp_gen (fun wx => Hid (NanAt wx w w3.heap.size 0)) W3 ?_
  intro wd hW
  clear W3
  generalize w3.heap.size = g at *
  go_wp2_with fail
  go_loopw [29] (fun i wx => ∃ k : Nat, k ≤ 16 ∧ i = .int .i64 k ∧ Hid (NanAt wx w g k)) (fun i _ => 16 - (intOf i).toNat)
  case atStart => exact ⟨0, by omega, rfl, hW⟩
  case round =>
    obtain ⟨k, hk, rfl, hI⟩ := hrel
    clear hW
    by_cases hlt : k < 16
    · have hki : (k : Int) < 16 := by omega
      have hk0 : (0 : Int) ≤ (k : Int) := by omega
      have HLT := Lib.hid hlt
      have st := store1 hI.out.t (o := k) hlt QN
      have I2 := Lib.hid (hI.out.step hlt)
      clear hlt
      go_wp2_with fail
      refine (c135 _).mono ?_
      rintro e w4 ⟨rfl, rfl⟩
      go_wp2_with fail
      go_roundw
      case rel => exact ⟨k + 1, by have := HLT.out; omega, by go_num, I2⟩
      case measure => have := HLT.out; simp [intOf]; omega
    · have hki : ¬ (k : Int) < 16 := by omega
      have hk16 : k = 16 := by omega
      subst hk16
      have RR := Lib.hid hI.out.r
      have E1 := Lib.hid (size80L (nanK 16) (nanK_len 16))
      have E2 := Lib.hid (size80A (nanK 16) (nanK_len 16))
      have T0 := Lib.hid (thereA hI.out.t1 (nanK_len 16))
      have T1 := Lib.hid (thereL hI.out.t1 (nanK_len 16))
      have BB := Lib.hid (below_setCells hI.out.b (Nat.le_succ _) 0 ((nanK 16).map (Value.float .f64)))
      clear hlt hk hI
      go_wp2_with (first
        | (refine wpList_load_mid rfl 80 (.tmp 6) rfl g 0 rfl ((nanK 16).map (Value.float .f64)) _ RR.out Try.underlying80 rfl E1.out ?_)
        | (refine wpList_store_mid rfl 80 (.tmp 2) (.tmp 36) rfl (w.heap.size + 1) 0 ((nanK 16).map (Value.float .f64)).toArray rfl rfl T0.out E2.out (one16 (nanK 16)) ?_))
      refine bodyPost_ret (v := .tuple #[.agg ((nanK 16).map (Value.float .f64)).toArray, .bool false]) (ret_row2 Try.prog Try.results97 rfl ((nanK 16).map (Value.float .f64)) T1.out Try.underlying80 rfl E1.out) rfl ⟨rfl, BB.out⟩
end Go.Proofs.Ytelalledjbeenaa
