/- The head of all statements of layer 15: 'awake' answers true. What the callees of the laws' drawn regions may answer: printed by geo14.py. -/
import Derived.Test.YtelalledjbeenaaMgGeoP
namespace Go.Proofs.Ytelalledjbeenaa
open Go.RowKit Fl

theorem word_of_placeG {x y : Nat} (hx : U x) (hy : U y) (h : pl x = pl y) (hn : isN y = false) : x = y := by
  rcases (pl_eq_iff hx hy).1 h with h | h
  · exact h
  · rw [hn] at h; exact absurd h.2 Bool.false_ne_true
theorem word_is {x : Nat} {P : Int} (h : RV x P) (y : Nat) (hy : U y) (hn : isN y = false) (he : P = pl y) : x = y := word_of_placeG h.1 hy (h.2.trans he) hn
theorem lit {x : Nat} (h : U x) : RV x (pl x) := RV.self h
theorem eqF (w : World) (x : Nat) (h : (FloatKind.f64.format.order x x == some .eq) = true) : (Op.equalIn 9999 24 (.float .f64 x) (.float .f64 x)).run Try.prog w = .ok true w := by
  have hu : Try.prog.underlying 24 = some (.float .f64) := Try.underlying24
  unfold Op.equalIn
  simp only [Sem.run_bind, run_underlying hu, Result.andThen_ok, Sem.run_pure]
  rw [show Op.floatEq FloatKind.f64 x x = true from h, if_pos trivial]
  rfl
structure Kp (wx : World) (g : Nat) (cs : List Value) : Prop where
  r : wx.rangeAt g 0 cs
  l : g < wx.heap.size
theorem Kp.below {wx wy : World} {g : Nat} {cs : List Value} (h : Kp wx g cs) (hb : Below wx.heap.size wx wy) : Kp wy g cs := ⟨range_below h.r hb h.l, Nat.lt_of_lt_of_le h.l hb.size⟩
theorem kp_new (w : World) (cs : List Value) (t : TypeId) : Kp (w.alloc (.cells cs.toArray t)) w.heap.size cs := ⟨range_new w cs t, by simp⟩
theorem foldP_congr {f : Int → Int → Int} {p q : Nat → Int} (h : ∀ j, j < 16 → p j = q j) {o : Nat} (ho : o < 4) : foldP f p o 3 = foldP f q o 3 := by
  show f (f (f (p o) (p (4 * (0 + 1) + o))) (p (4 * (1 + 1) + o))) (p (4 * (2 + 1) + o)) = f (f (f (q o) (q (4 * (0 + 1) + o))) (q (4 * (1 + 1) + o))) (q (4 * (2 + 1) + o))
  rw [h _ (by omega), h _ (by omega), h _ (by omega), h _ (by omega)]
theorem kp_st16 (w2 : World) (xs : List Nat) (h : xs.length = 16) : Kp ((w2.alloc (.cells Z16 80)).setCells w2.heap.size 0 (xs.map (Value.float .f64))) w2.heap.size (xs.map (Value.float .f64)) :=
  ⟨World.rangeAt_setCells_same _ _ _ _ (thereL (there_new w2 Z16 80 16 rfl) h), by have := (below_setCells (Below.refl w2.heap.size (w2.alloc (.cells Z16 80))) (Nat.le_refl _) 0 (xs.map (Value.float .f64))).size; simp at this; omega⟩
set_option maxRecDepth 100000 in
set_option maxHeartbeats 2000000 in
theorem k46 (w : World) : Calls Try.prog 46 #[] w fun e w' => e = .returned (.bool true) ∧ Below w.heap.size w w' := by
  have U0 : U 0 := by unfold U; decide
  have U1 : U 4607182418800017408 := by unfold U; decide
  have U3 : U 4613937818241073152 := by unfold U; decide
  have U4 : U 4616189618054758400 := by unfold U; decide
  have Um : U 13830554455654793216 := by unfold U; decide
  go_enter Try.func46, Try.ntmps46
  go_wp2_with fail
  refine (k55 (lit U0) (lit U0) (lit U1) (lit U1) (lit U3) (lit U4) (lit Um) (lit U1) _).mono ?_
  rintro e w1 ⟨⟨a, b, c, d, rfl, ha, hb, hc, hd⟩, h1⟩
  obtain rfl := word_is ha 0 U0 (by decide) (by kernel_rfl)
  obtain rfl := word_is hb 0 U0 (by decide) (by kernel_rfl)
  obtain rfl := word_is hc 4613937818241073152 U3 (by decide) (by kernel_rfl)
  obtain rfl := word_is hd 4617315517961601024 (by unfold U; decide) (by decide) (by kernel_rfl)
  clear ha hb hc hd
  have K1 := Lib.hid (kp_new w1 [.float .f64 0, .float .f64 0, .float .f64 4613937818241073152, .float .f64 4617315517961601024] 58)
  have B1 := Lib.hid (below_trans h1 (alloc_below w1 (.cells #[.float .f64 0, .float .f64 0, .float .f64 4613937818241073152, .float .f64 4617315517961601024] 58)))
  obtain ⟨s0, s1, s2, s3⟩ := store4n w1 58
  clear h1
  go_upto_region 2 with fail
  refine wp_gen (fun wx => Hid (Kp wx w1.heap.size [.float .f64 0, .float .f64 0, .float .f64 4613937818241073152, .float .f64 4617315517961601024] ∧ Below w.heap.size w wx)) (Lib.hid ⟨K1.out, B1.out⟩) ?_
  intro wa hA
  clear K1 B1 s0 s1 s2 s3
  generalize w1.heap.size = g1 at *
  go_wp2_with fail
  refine (k52 (lit U0) (lit U0) (lit U1) (lit U1) (lit U1) (lit U0) (lit U1) (lit U1) _).mono ?_
  rintro e w2 ⟨⟨a, b, c, d, rfl, _⟩, h2⟩
  have hmb : meetB (pl 0) (pl 0) (pl 4607182418800017408) (pl 4607182418800017408) (pl 4607182418800017408) (pl 0) (pl 4607182418800017408) (pl 4607182418800017408) = false := by kernel_rfl
  rw [hmb]
  have A2 := Lib.hid (And.intro (hA.out.1.below (h2.trans ((alloc_below w2 (.cells #[.float .f64 a, .float .f64 b, .float .f64 c, .float .f64 d] 58)).mono h2.size))) (below_trans (below_trans hA.out.2 h2) (alloc_below w2 (.cells #[.float .f64 a, .float .f64 b, .float .f64 c, .float .f64 d] 58))))
  obtain ⟨s0, s1, s2, s3⟩ := store4n w2 58
  clear h2 hA hmb
  go_upto_region 3 with fail
  refine wp_gen (fun wx => Hid (Kp wx g1 [.float .f64 0, .float .f64 0, .float .f64 4613937818241073152, .float .f64 4617315517961601024] ∧ Below w.heap.size w wx)) A2 ?_
  intro wb hA
  clear A2 s0 s1 s2 s3
  go_wp2_with fail
  refine (k93 (lit U3) (lit U4) _).mono ?_
  rintro e w3 ⟨⟨c, q, rfl, hc, hq⟩, h3⟩
  obtain rfl := word_is hc 4603579539098121011 (by unfold U; decide) (by decide) (by kernel_rfl)
  obtain rfl := word_is hq 4605380978949069210 (by unfold U; decide) (by decide) (by kernel_rfl)
  clear hc hq
  obtain ⟨tl, htl⟩ : ∃ tl, tl = turnL 4603579539098121011 4605380978949069210 := ⟨_, rfl⟩
  rw [← htl]
  have htn : tl.length = 16 := by rw [htl]; rfl
  have hc0 : (tl.map (Value.float .f64))[0]? = some (.float .f64 4603579539098121011) := by rw [htl]; rfl
  have hc4 : (tl.map (Value.float .f64))[4]? = some (.float .f64 13828753015803845018) := by rw [htl]; kernel_rfl
  have K3 := Lib.hid (kp_st16 w3 tl htn)
  have A3 := Lib.hid (And.intro (hA.out.1.below (h3.trans ((stored16 w3 (tl.map (Value.float .f64))).mono h3.size))) (below_trans (below_trans hA.out.2 h3) (stored16 w3 (tl.map (Value.float .f64)))))
  have T3 := Lib.hid (thereA (there_new w3 Z16 80 16 rfl) htn)
  have E3 := Lib.hid (size80A tl htn)
  have C0 := Lib.hid hc0
  have C4 := Lib.hid hc4
  clear h3 hA hc0 hc4 htl htn
  go_upto_region 4 with (refine wpList_store_mid rfl 80 (.tmp 4) (.tmp 17) rfl w3.heap.size 0 (tl.map (Value.float .f64)).toArray rfl rfl T3.out E3.out (one16 tl) ?_)
  refine wp_gen (fun wx => Hid (Kp wx g1 [.float .f64 0, .float .f64 0, .float .f64 4613937818241073152, .float .f64 4617315517961601024] ∧ Kp wx w3.heap.size (tl.map (Value.float .f64)) ∧ Below w.heap.size w wx)) (Lib.hid ⟨A3.out.1, K3.out, A3.out.2⟩) ?_
  intro wd hA
  clear A3 K3 T3 E3
  generalize w3.heap.size = g3 at *
  go_wp2_with fail
  refine (k93 (lit U0) (lit U1) _).mono ?_
  rintro e w4 ⟨⟨c, q, rfl, hc, hq⟩, h4⟩
  obtain rfl := word_is hc 0 U0 (by decide) (by kernel_rfl)
  obtain rfl := word_is hq 4607182418800017408 U1 (by decide) (by kernel_rfl)
  clear hc hq
  have MT := turnL_MU U0 U1
  go_wp2_with fail
  refine (k72 MT (lit U0) (lit U0) (lit (show U 4611686018427387904 by unfold U; decide)) (lit U1) _).mono ?_
  rintro e w5 ⟨⟨qs, rfl, hq⟩, h5⟩
  go_wp2_with fail
  refine (k79 hq.1 _).mono ?_
  rintro e w6 ⟨⟨a, b, c, d, rfl, ha, hb, hc, hd⟩, h6⟩
  rw [foldP_congr hq.2 (by omega)] at ha hb hc hd
  rw [foldP_congr hq.2 (by omega)] at hc hd
  obtain rfl := word_is ha 13830554455654793216 Um (by decide) (by kernel_rfl)
  obtain rfl := word_is hb 0 U0 (by decide) (by kernel_rfl)
  obtain rfl := word_is hc 4607182418800017408 U1 (by decide) (by kernel_rfl)
  obtain rfl := word_is hd 4611686018427387904 (by unfold U; decide) (by decide) (by kernel_rfl)
  clear ha hb hc hd MT
  have h46 := below_trans (below_trans h4 h5) h6
  have K6 := Lib.hid (kp_new w6 [.float .f64 13830554455654793216, .float .f64 0, .float .f64 4607182418800017408, .float .f64 4611686018427387904] 58)
  have A6 := Lib.hid (And.intro (hA.out.1.below (h46.trans ((alloc_below w6 (.cells #[.float .f64 13830554455654793216, .float .f64 0, .float .f64 4607182418800017408, .float .f64 4611686018427387904] 58)).mono h46.size))) (And.intro (hA.out.2.1.below (h46.trans ((alloc_below w6 (.cells #[.float .f64 13830554455654793216, .float .f64 0, .float .f64 4607182418800017408, .float .f64 4611686018427387904] 58)).mono h46.size))) (below_trans (below_trans hA.out.2.2 h46) (alloc_below w6 (.cells #[.float .f64 13830554455654793216, .float .f64 0, .float .f64 4607182418800017408, .float .f64 4611686018427387904] 58)))))
  obtain ⟨s0, s1, s2, s3⟩ := store4n w6 58
  clear h4 h5 h6 h46 hA hq
  go_upto_region 5 with fail
  refine wp_gen (fun wx => Hid (Kp wx g1 [.float .f64 0, .float .f64 0, .float .f64 4613937818241073152, .float .f64 4617315517961601024] ∧ Kp wx g3 (tl.map (Value.float .f64)) ∧ Kp wx w6.heap.size [.float .f64 13830554455654793216, .float .f64 0, .float .f64 4607182418800017408, .float .f64 4611686018427387904] ∧ Below w.heap.size w wx)) (Lib.hid ⟨A6.out.1, A6.out.2.1, K6.out, A6.out.2.2⟩) ?_
  intro we hA
  clear A6 K6 s0 s1 s2 s3
  generalize w6.heap.size = g6 at *
  go_wp2_with fail
  refine (k91 4607182418800017408 0 4607182418800017408 _).mono ?_
  rintro e w7 ⟨rfl, h7⟩
  have MS := scaleL_MU U1 U0 U1
  have HZ : ∀ x, RV x (detP (mp (scaleL 4607182418800017408 0 4607182418800017408))) → pCls x = 0 := fun x hx => by
    obtain rfl := word_is hx 0 U0 (by decide) (by kernel_rfl)
    decide
  go_wp2_with fail
  refine (k97z MS HZ _).mono ?_
  rintro e w8 ⟨rfl, h8⟩
  have hnn := nanK_len 16
  generalize nanK 16 = nl at *
  have h78 := below_trans h7 h8
  have A8 := Lib.hid (And.intro (hA.out.1.below (h78.trans ((stored16 w8 (nl.map (Value.float .f64))).mono h78.size))) (And.intro (hA.out.2.1.below (h78.trans ((stored16 w8 (nl.map (Value.float .f64))).mono h78.size))) (And.intro (hA.out.2.2.1.below (h78.trans ((stored16 w8 (nl.map (Value.float .f64))).mono h78.size))) (below_trans (below_trans hA.out.2.2.2 h78) (stored16 w8 (nl.map (Value.float .f64)))))))
  have T8 := Lib.hid (thereA (there_new w8 Z16 80 16 rfl) hnn)
  have E8 := Lib.hid (size80A nl hnn)
  clear h7 h8 h78 hA MS HZ hnn
  go_upto_region 6 with (refine wpList_store_mid rfl 80 (.tmp 6) (.tmp 25) rfl w8.heap.size 0 (nl.map (Value.float .f64)).toArray rfl rfl T8.out E8.out (one16 nl) ?_)
  refine wp_gen (fun wx => Hid (Kp wx g1 [.float .f64 0, .float .f64 0, .float .f64 4613937818241073152, .float .f64 4617315517961601024] ∧ Kp wx g3 (tl.map (Value.float .f64)) ∧ Kp wx g6 [.float .f64 13830554455654793216, .float .f64 0, .float .f64 4607182418800017408, .float .f64 4611686018427387904] ∧ Below w.heap.size w wx)) A8 ?_
  intro wf hA
  clear A8 T8 E8
  generalize w8.heap.size = g8 at *
  obtain ⟨x0, x1, x2, x3⟩ := cells4 hA.out.1.r
  have y0 : wf.cell? ⟨g3, 0, none⟩ = some (.float .f64 4603579539098121011) := hA.out.2.1.r 0 _ C0.out
  have y4 : wf.cell? ⟨g3, 4, none⟩ = some (.float .f64 13828753015803845018) := hA.out.2.1.r 4 _ C4.out
  obtain ⟨z0, z1, z2, z3⟩ := cells4 hA.out.2.2.1.r
  have q0 : ∀ w : World, (Op.equalIn 9999 24 (.float .f64 0) (.float .f64 0)).run Try.prog w = .ok true w := fun w => eqF w 0 (by kernel_rfl)
  have q1 : ∀ w : World, (Op.equalIn 9999 24 (.float .f64 4613937818241073152) (.float .f64 4613937818241073152)).run Try.prog w = .ok true w := fun w => eqF w 4613937818241073152 (by kernel_rfl)
  have q2 : ∀ w : World, (Op.equalIn 9999 24 (.float .f64 4617315517961601024) (.float .f64 4617315517961601024)).run Try.prog w = .ok true w := fun w => eqF w 4617315517961601024 (by kernel_rfl)
  have q3 : ∀ w : World, (Op.equalIn 9999 24 (.float .f64 13830554455654793216) (.float .f64 13830554455654793216)).run Try.prog w = .ok true w := fun w => eqF w 13830554455654793216 (by kernel_rfl)
  have q4 : ∀ w : World, (Op.equalIn 9999 24 (.float .f64 4607182418800017408) (.float .f64 4607182418800017408)).run Try.prog w = .ok true w := fun w => eqF w 4607182418800017408 (by kernel_rfl)
  have q5 : ∀ w : World, (Op.equalIn 9999 24 (.float .f64 4611686018427387904) (.float .f64 4611686018427387904)).run Try.prog w = .ok true w := fun w => eqF w 4611686018427387904 (by kernel_rfl)
  go_wp2_with fail
  have B9 := Lib.hid hA.out.2.2.2
  clear x0 x1 x2 x3 y0 y4 z0 z1 z2 z3 hA C0 C4
  refine (k91 4611686018427387904 4613937818241073152 4616189618054758400 _).mono ?_
  rintro e w9 ⟨rfl, h9⟩
  have MS := scaleL_MU (show U 4611686018427387904 by unfold U; decide) U3 U4
  have B10 := Lib.hid (below_trans B9.out h9)
  clear h9 B9
  go_wp2_with fail
  refine (k103 MS _).mono ?_
  rintro e w10 ⟨⟨x, rfl, hx⟩, h10⟩
  obtain rfl := word_is hx 4627448617123184640 (by unfold U; decide) (by decide) (by kernel_rfl)
  have B11 := Lib.hid (below_trans B10.out h10)
  clear h10 B10 hx MS
  go_wp2_with fail
  refine (k57 (lit U0) (lit U0) (lit U1) (lit U1) (lit U0) (lit U0) _).mono ?_
  rintro e w11 ⟨rfl, h11⟩
  rw [show hasP (pl 0) (pl 0) (pl 4607182418800017408) (pl 4607182418800017408) (pl 0) (pl 0) = true by kernel_rfl]
  have B12 := Lib.hid (below_trans B11.out h11)
  clear h11 B11
  go_wp2_with fail
  refine (k57 (lit U0) (lit U0) (lit U1) (lit U1) (lit U1) (lit U0) _).mono ?_
  rintro e w12 ⟨rfl, h12⟩
  rw [show hasP (pl 0) (pl 0) (pl 4607182418800017408) (pl 4607182418800017408) (pl 4607182418800017408) (pl 0) = false by kernel_rfl]
  have B13 := Lib.hid (below_trans B12.out h12)
  clear h12 B12
  go_wp2
  go_ret
  exact ⟨rfl, B13.out⟩
end Go.Proofs.Ytelalledjbeenaa

namespace Go.Proofs.Ytelalledjbeenaa
open Go.RowKit Fl

def GR (B : Bool) (f : FuncId) (args : Array Value) (v : Value) : Prop :=
  match f with
  | 48 => ∀ (a0 a1 a2 a3 : Nat), args = #[.agg #[.float .f64 a0, .float .f64 a1, .float .f64 a2, .float .f64 a3]] → ∃ r : Nat, v = .float .f64 r ∧ RV r (loP (pl a0) (pl a2))
  | 49 => ∀ (a0 a1 a2 a3 : Nat), args = #[.agg #[.float .f64 a0, .float .f64 a1, .float .f64 a2, .float .f64 a3]] → ∃ r : Nat, v = .float .f64 r ∧ RV r (loP (pl a1) (pl a3))
  | 50 => ∀ (a0 a1 a2 a3 : Nat), args = #[.agg #[.float .f64 a0, .float .f64 a1, .float .f64 a2, .float .f64 a3]] → ∃ r : Nat, v = .float .f64 r ∧ RV r (hiP (pl a0) (pl a2))
  | 51 => ∀ (a0 a1 a2 a3 : Nat), args = #[.agg #[.float .f64 a0, .float .f64 a1, .float .f64 a2, .float .f64 a3]] → ∃ r : Nat, v = .float .f64 r ∧ RV r (hiP (pl a1) (pl a3))
  | 55 => ∀ (a0 a1 a2 a3 a4 a5 a6 a7 : Nat), args = #[.agg #[.float .f64 a0, .float .f64 a1, .float .f64 a2, .float .f64 a3], .agg #[.float .f64 a4, .float .f64 a5, .float .f64 a6, .float .f64 a7]] → ∃ r0 r1 r2 r3 : Nat, v = .agg #[.float .f64 r0, .float .f64 r1, .float .f64 r2, .float .f64 r3] ∧ RV r0 (minP (loP (pl a0) (pl a2)) (loP (pl a4) (pl a6))) ∧ RV r1 (minP (loP (pl a1) (pl a3)) (loP (pl a5) (pl a7))) ∧ RV r2 (opP .sub (maxP (hiP (pl a0) (pl a2)) (hiP (pl a4) (pl a6))) (minP (loP (pl a0) (pl a2)) (loP (pl a4) (pl a6)))) ∧ RV r3 (opP .sub (maxP (hiP (pl a1) (pl a3)) (hiP (pl a5) (pl a7))) (minP (loP (pl a1) (pl a3)) (loP (pl a5) (pl a7))))
  | 56 => ∀ (a0 a1 a2 a3 a4 a5 a6 a7 : Nat), args = #[.agg #[.float .f64 a0, .float .f64 a1, .float .f64 a2, .float .f64 a3], .agg #[.float .f64 a4, .float .f64 a5, .float .f64 a6, .float .f64 a7]] → ∃ r0 r1 r2 r3 : Nat, v = .agg #[.float .f64 r0, .float .f64 r1, .float .f64 r2, .float .f64 r3] ∧ RV r0 (minP (loP (pl a0) (pl a2)) (loP (pl a4) (pl a6))) ∧ RV r1 (minP (loP (pl a1) (pl a3)) (loP (pl a5) (pl a7))) ∧ RV r2 (opP .sub (maxP (hiP (pl a0) (pl a2)) (hiP (pl a4) (pl a6))) (minP (loP (pl a0) (pl a2)) (loP (pl a4) (pl a6)))) ∧ RV r3 (opP .sub (maxP (hiP (pl a1) (pl a3)) (hiP (pl a5) (pl a7))) (minP (loP (pl a1) (pl a3)) (loP (pl a5) (pl a7))))
  | 32 => v = .bool true
  | 54 => v = .bool true
  | 57 => v = .bool B
  | 58 => v = .bool B
  | _ => True

section
variable {B : Bool}
theorem g48r {w0 w : World} {a0 a1 a2 a3 : Nat} {P0 P1 P2 P3 : Int} (h0 : RV a0 P0) (h1 : RV a1 P1) (h2 : RV a2 P2) (h3 : RV a3 P3) (hw : Below w0.heap.size w0 w) : Calls Try.prog 48 #[.agg #[.float .f64 a0, .float .f64 a1, .float .f64 a2, .float .f64 a3]] w fun e w' => ∃ v, e = .returned v ∧ GR B 48 #[.agg #[.float .f64 a0, .float .f64 a1, .float .f64 a2, .float .f64 a3]] v ∧ Below w0.heap.size w0 w' :=
  (k48 (RV.self h0.1) (RV.self h1.1) (RV.self h2.1) (RV.self h3.1) w).mono fun e w' ⟨⟨r, he, hr⟩, hb⟩ => ⟨_, he, fun ba0 ba1 ba2 ba3 hh => by cases hh; exact ⟨r, rfl, hr⟩, below_trans hw hb⟩
theorem G48r {a0 a1 a2 a3 : Nat} {P0 P1 P2 P3 : Int} {v : Value} (hv : GR B 48 #[.agg #[.float .f64 a0, .float .f64 a1, .float .f64 a2, .float .f64 a3]] v) (h0 : RV a0 P0) (h1 : RV a1 P1) (h2 : RV a2 P2) (h3 : RV a3 P3) : ∃ r : Nat, v = .float .f64 r ∧ RV r (loP P0 P2) := by
  obtain ⟨_, rfl⟩ := h0
  obtain ⟨_, rfl⟩ := h1
  obtain ⟨_, rfl⟩ := h2
  obtain ⟨_, rfl⟩ := h3
  exact hv _ _ _ _ rfl
theorem g49r {w0 w : World} {a0 a1 a2 a3 : Nat} {P0 P1 P2 P3 : Int} (h0 : RV a0 P0) (h1 : RV a1 P1) (h2 : RV a2 P2) (h3 : RV a3 P3) (hw : Below w0.heap.size w0 w) : Calls Try.prog 49 #[.agg #[.float .f64 a0, .float .f64 a1, .float .f64 a2, .float .f64 a3]] w fun e w' => ∃ v, e = .returned v ∧ GR B 49 #[.agg #[.float .f64 a0, .float .f64 a1, .float .f64 a2, .float .f64 a3]] v ∧ Below w0.heap.size w0 w' :=
  (k49 (RV.self h0.1) (RV.self h1.1) (RV.self h2.1) (RV.self h3.1) w).mono fun e w' ⟨⟨r, he, hr⟩, hb⟩ => ⟨_, he, fun ba0 ba1 ba2 ba3 hh => by cases hh; exact ⟨r, rfl, hr⟩, below_trans hw hb⟩
theorem G49r {a0 a1 a2 a3 : Nat} {P0 P1 P2 P3 : Int} {v : Value} (hv : GR B 49 #[.agg #[.float .f64 a0, .float .f64 a1, .float .f64 a2, .float .f64 a3]] v) (h0 : RV a0 P0) (h1 : RV a1 P1) (h2 : RV a2 P2) (h3 : RV a3 P3) : ∃ r : Nat, v = .float .f64 r ∧ RV r (loP P1 P3) := by
  obtain ⟨_, rfl⟩ := h0
  obtain ⟨_, rfl⟩ := h1
  obtain ⟨_, rfl⟩ := h2
  obtain ⟨_, rfl⟩ := h3
  exact hv _ _ _ _ rfl
theorem g50r {w0 w : World} {a0 a1 a2 a3 : Nat} {P0 P1 P2 P3 : Int} (h0 : RV a0 P0) (h1 : RV a1 P1) (h2 : RV a2 P2) (h3 : RV a3 P3) (hw : Below w0.heap.size w0 w) : Calls Try.prog 50 #[.agg #[.float .f64 a0, .float .f64 a1, .float .f64 a2, .float .f64 a3]] w fun e w' => ∃ v, e = .returned v ∧ GR B 50 #[.agg #[.float .f64 a0, .float .f64 a1, .float .f64 a2, .float .f64 a3]] v ∧ Below w0.heap.size w0 w' :=
  (k50 (RV.self h0.1) (RV.self h1.1) (RV.self h2.1) (RV.self h3.1) w).mono fun e w' ⟨⟨r, he, hr⟩, hb⟩ => ⟨_, he, fun ba0 ba1 ba2 ba3 hh => by cases hh; exact ⟨r, rfl, hr⟩, below_trans hw hb⟩
theorem G50r {a0 a1 a2 a3 : Nat} {P0 P1 P2 P3 : Int} {v : Value} (hv : GR B 50 #[.agg #[.float .f64 a0, .float .f64 a1, .float .f64 a2, .float .f64 a3]] v) (h0 : RV a0 P0) (h1 : RV a1 P1) (h2 : RV a2 P2) (h3 : RV a3 P3) : ∃ r : Nat, v = .float .f64 r ∧ RV r (hiP P0 P2) := by
  obtain ⟨_, rfl⟩ := h0
  obtain ⟨_, rfl⟩ := h1
  obtain ⟨_, rfl⟩ := h2
  obtain ⟨_, rfl⟩ := h3
  exact hv _ _ _ _ rfl
theorem g51r {w0 w : World} {a0 a1 a2 a3 : Nat} {P0 P1 P2 P3 : Int} (h0 : RV a0 P0) (h1 : RV a1 P1) (h2 : RV a2 P2) (h3 : RV a3 P3) (hw : Below w0.heap.size w0 w) : Calls Try.prog 51 #[.agg #[.float .f64 a0, .float .f64 a1, .float .f64 a2, .float .f64 a3]] w fun e w' => ∃ v, e = .returned v ∧ GR B 51 #[.agg #[.float .f64 a0, .float .f64 a1, .float .f64 a2, .float .f64 a3]] v ∧ Below w0.heap.size w0 w' :=
  (k51 (RV.self h0.1) (RV.self h1.1) (RV.self h2.1) (RV.self h3.1) w).mono fun e w' ⟨⟨r, he, hr⟩, hb⟩ => ⟨_, he, fun ba0 ba1 ba2 ba3 hh => by cases hh; exact ⟨r, rfl, hr⟩, below_trans hw hb⟩
theorem G51r {a0 a1 a2 a3 : Nat} {P0 P1 P2 P3 : Int} {v : Value} (hv : GR B 51 #[.agg #[.float .f64 a0, .float .f64 a1, .float .f64 a2, .float .f64 a3]] v) (h0 : RV a0 P0) (h1 : RV a1 P1) (h2 : RV a2 P2) (h3 : RV a3 P3) : ∃ r : Nat, v = .float .f64 r ∧ RV r (hiP P1 P3) := by
  obtain ⟨_, rfl⟩ := h0
  obtain ⟨_, rfl⟩ := h1
  obtain ⟨_, rfl⟩ := h2
  obtain ⟨_, rfl⟩ := h3
  exact hv _ _ _ _ rfl
theorem g55r {w0 w : World} {a0 a1 a2 a3 a4 a5 a6 a7 : Nat} {P0 P1 P2 P3 P4 P5 P6 P7 : Int} (h0 : RV a0 P0) (h1 : RV a1 P1) (h2 : RV a2 P2) (h3 : RV a3 P3) (h4 : RV a4 P4) (h5 : RV a5 P5) (h6 : RV a6 P6) (h7 : RV a7 P7) (hw : Below w0.heap.size w0 w) : Calls Try.prog 55 #[.agg #[.float .f64 a0, .float .f64 a1, .float .f64 a2, .float .f64 a3], .agg #[.float .f64 a4, .float .f64 a5, .float .f64 a6, .float .f64 a7]] w fun e w' => ∃ v, e = .returned v ∧ GR B 55 #[.agg #[.float .f64 a0, .float .f64 a1, .float .f64 a2, .float .f64 a3], .agg #[.float .f64 a4, .float .f64 a5, .float .f64 a6, .float .f64 a7]] v ∧ Below w0.heap.size w0 w' :=
  (k55 (RV.self h0.1) (RV.self h1.1) (RV.self h2.1) (RV.self h3.1) (RV.self h4.1) (RV.self h5.1) (RV.self h6.1) (RV.self h7.1) w).mono fun e w' ⟨⟨r0, r1, r2, r3, he, hr⟩, hb⟩ => ⟨_, he, fun ba0 ba1 ba2 ba3 ba4 ba5 ba6 ba7 hh => by cases hh; exact ⟨r0, r1, r2, r3, rfl, hr⟩, below_trans hw hb⟩
theorem G55r {a0 a1 a2 a3 a4 a5 a6 a7 : Nat} {P0 P1 P2 P3 P4 P5 P6 P7 : Int} {v : Value} (hv : GR B 55 #[.agg #[.float .f64 a0, .float .f64 a1, .float .f64 a2, .float .f64 a3], .agg #[.float .f64 a4, .float .f64 a5, .float .f64 a6, .float .f64 a7]] v) (h0 : RV a0 P0) (h1 : RV a1 P1) (h2 : RV a2 P2) (h3 : RV a3 P3) (h4 : RV a4 P4) (h5 : RV a5 P5) (h6 : RV a6 P6) (h7 : RV a7 P7) : ∃ r0 r1 r2 r3 : Nat, v = .agg #[.float .f64 r0, .float .f64 r1, .float .f64 r2, .float .f64 r3] ∧ RV r0 (minP (loP P0 P2) (loP P4 P6)) ∧ RV r1 (minP (loP P1 P3) (loP P5 P7)) ∧ RV r2 (opP .sub (maxP (hiP P0 P2) (hiP P4 P6)) (minP (loP P0 P2) (loP P4 P6))) ∧ RV r3 (opP .sub (maxP (hiP P1 P3) (hiP P5 P7)) (minP (loP P1 P3) (loP P5 P7))) := by
  obtain ⟨_, rfl⟩ := h0
  obtain ⟨_, rfl⟩ := h1
  obtain ⟨_, rfl⟩ := h2
  obtain ⟨_, rfl⟩ := h3
  obtain ⟨_, rfl⟩ := h4
  obtain ⟨_, rfl⟩ := h5
  obtain ⟨_, rfl⟩ := h6
  obtain ⟨_, rfl⟩ := h7
  exact hv _ _ _ _ _ _ _ _ rfl
theorem g56r {w0 w : World} {a0 a1 a2 a3 a4 a5 a6 a7 : Nat} {P0 P1 P2 P3 P4 P5 P6 P7 : Int} (h0 : RV a0 P0) (h1 : RV a1 P1) (h2 : RV a2 P2) (h3 : RV a3 P3) (h4 : RV a4 P4) (h5 : RV a5 P5) (h6 : RV a6 P6) (h7 : RV a7 P7) (hw : Below w0.heap.size w0 w) : Calls Try.prog 56 #[.agg #[.float .f64 a0, .float .f64 a1, .float .f64 a2, .float .f64 a3], .agg #[.float .f64 a4, .float .f64 a5, .float .f64 a6, .float .f64 a7]] w fun e w' => ∃ v, e = .returned v ∧ GR B 56 #[.agg #[.float .f64 a0, .float .f64 a1, .float .f64 a2, .float .f64 a3], .agg #[.float .f64 a4, .float .f64 a5, .float .f64 a6, .float .f64 a7]] v ∧ Below w0.heap.size w0 w' :=
  (k56 (RV.self h0.1) (RV.self h1.1) (RV.self h2.1) (RV.self h3.1) (RV.self h4.1) (RV.self h5.1) (RV.self h6.1) (RV.self h7.1) w).mono fun e w' ⟨⟨r0, r1, r2, r3, he, hr⟩, hb⟩ => ⟨_, he, fun ba0 ba1 ba2 ba3 ba4 ba5 ba6 ba7 hh => by cases hh; exact ⟨r0, r1, r2, r3, rfl, hr⟩, below_trans hw hb⟩
theorem G56r {a0 a1 a2 a3 a4 a5 a6 a7 : Nat} {P0 P1 P2 P3 P4 P5 P6 P7 : Int} {v : Value} (hv : GR B 56 #[.agg #[.float .f64 a0, .float .f64 a1, .float .f64 a2, .float .f64 a3], .agg #[.float .f64 a4, .float .f64 a5, .float .f64 a6, .float .f64 a7]] v) (h0 : RV a0 P0) (h1 : RV a1 P1) (h2 : RV a2 P2) (h3 : RV a3 P3) (h4 : RV a4 P4) (h5 : RV a5 P5) (h6 : RV a6 P6) (h7 : RV a7 P7) : ∃ r0 r1 r2 r3 : Nat, v = .agg #[.float .f64 r0, .float .f64 r1, .float .f64 r2, .float .f64 r3] ∧ RV r0 (minP (loP P0 P2) (loP P4 P6)) ∧ RV r1 (minP (loP P1 P3) (loP P5 P7)) ∧ RV r2 (opP .sub (maxP (hiP P0 P2) (hiP P4 P6)) (minP (loP P0 P2) (loP P4 P6))) ∧ RV r3 (opP .sub (maxP (hiP P1 P3) (hiP P5 P7)) (minP (loP P1 P3) (loP P5 P7))) := by
  obtain ⟨_, rfl⟩ := h0
  obtain ⟨_, rfl⟩ := h1
  obtain ⟨_, rfl⟩ := h2
  obtain ⟨_, rfl⟩ := h3
  obtain ⟨_, rfl⟩ := h4
  obtain ⟨_, rfl⟩ := h5
  obtain ⟨_, rfl⟩ := h6
  obtain ⟨_, rfl⟩ := h7
  exact hv _ _ _ _ _ _ _ _ rfl

theorem g32r {w0 w : World} {x y : Nat} {P : Int} (hx : RV x P) (hy : RV y P) (hw : Below w0.heap.size w0 w) : Calls Try.prog 32 #[.float .f64 x, .float .f64 y] w fun e w' => ∃ v, e = .returned v ∧ GR B 32 #[.float .f64 x, .float .f64 y] v ∧ Below w0.heap.size w0 w' :=
  (k32 hx hy w).mono fun e w' ⟨he, hb⟩ => ⟨_, he, rfl, by subst hb; exact hw⟩
end
end Go.Proofs.Ytelalledjbeenaa
