/- The law's items, pick, SameTotal; Total and Hit of nothing: the walks. SameTotal; Total of nothing: the walks. awake's rows, reckoned: plain. awake answers true: the walk. The law ScenePaints: its drawn region, printed by gen_pn.py. The law ScenePaints: lists of painted items by places; the first half of the walk. The law ScenePaints: the walk over at least one shape. The law ScenePaints: the walk over no shapes; both. The walk of GeomRects and what opens its arguments. -/
import Derived.Test.YtedkbjimofiphaaMgTtB
import Derived.Test.YtedkbjimofiphaaMgPtI
import Derived.Test.YtedkbjimofiphaaMgRpB
import Derived.Test.YtedkbjimofiphaaMgRdD
import Derived.Test.YtedkbjimofiphaaMgInvC
import Derived.ChangeArms
import Derived.ProofKit
namespace Go.Proofs.Ytedkbjimofiphaa
open Go.RowKit Fl
structure IS (w0 w : World) (v : Value) (T : Nat → ITM) (i : Nat) : Prop where
  o : w.ownsRow w0.heap.size 60 23 v i ((List.range i).flatMap fun k => (T k).cells)
  b : Below w0.heap.size w0 w
theorem IS.below {w0 w w' : World} {v : Value} {T : Nat → ITM} {i : Nat} (h : IS w0 w v T i) (hb : Below w.heap.size w w') : IS w0 w' v T i :=
  ⟨owned_at h.o fun k _ hl => hb.block k hl, h.b.trans (hb.mono h.b.size)⟩
theorem IS.push {w0 w w1 w3 : World} {v v3 : Value} {T : Nat → ITM} {i : Nat} (h : IS w0 w v T i) (hb : Below w.heap.size w w1) (ho : w3.ownsRow w0.heap.size 60 23 v3 (i + 1) ((List.range i).flatMap (fun k => (T k).cells) ++ (T i).cells)) (hg : w1.grownBy w3 v.ownBlock) : IS w0 w3 v3 T (i + 1) := by
  have h1 := h.below hb
  refine ⟨by rw [List.range_succ, List.flatMap_append]; simpa using ho, h1.b.trans ?_⟩
  exact ((grown_keep h1.o hg h1.b.size (fun _ => False)).below _ (Nat.le_refl _) (fun _ _ h => h))
/-- an item by its place in a row of the call's own -/
theorem IS.rec_ {w0 w : World} {T : Nat → ITM} {n g c k : Nat} (hT : ∀ k, k < n → (T k).OK) (h : IS w0 w (.slice (some ⟨g, 0, none⟩) n c) T n) (hk : k < n) : w.rangeAt g (k * 23) (T k).cells :=
  owned_rec (f := fun k => (T k).cells) (fun k hk => ITM.len (hT k hk)) h.o hk
set_option maxRecDepth 100000 in
set_option maxHeartbeats 2000000 in
theorem items15 (w : World) (g0 os n c0 : Nat) (L : Nat → LW) (hL : ∀ i, i < n → (L i).OK) (hr : ∀ i, i < n → w.rangeAt g0 (os + i * 22) (L i).cells) (lg : g0 < w.heap.size) (hn : n ≤ 1048576) :
    Calls Try.prog 15 #[.slice (some ⟨g0, os, none⟩) n c0] w fun e w' => ∃ v, e = .returned v ∧ IS w w' v (fun k => (L k).it) n := by
  have HR := Lib.hid (And.intro hL (And.intro hr lg))
  have H0 := Lib.hid (show IS w w (.slice none 0 0) (fun k => (L k).it) 0 from ⟨World.ownsRow_nil .., Below.refl _ _⟩)
  have G0 := Lib.hid (show ∀ g, undef = .slice (some ⟨g, 0, none⟩) 1 1 → g < w.heap.size from fun g h => by cases h)
  clear hL hr lg
  go_enter Try.func15, Try.ntmps15
  go_wp2_with fail
  go_loopw [3, 4, 35] (fun v ii st wx => ∃ i : Nat, ii = .int .i64 (i : Int) ∧ i ≤ n ∧ Hid (IS w wx v (fun k => (L k).it) i) ∧ Hid (∀ g, st = .slice (some ⟨g, 0, none⟩) 1 1 → g < wx.heap.size)) (fun _ ii _ _ => n - (intOf ii).toNat)
  case atStart => exact ⟨0, rfl, Nat.zero_le _, H0, G0⟩
  case round =>
    obtain ⟨i, rfl, hin, hI, hG⟩ := hrel
    obtain ⟨pv, cv, rfl, -⟩ := owned_slice hI.out.o
    clear H0 G0
    by_cases hlt : i < n
    · have hi2 : (i : Int) < (n : Int) := by omega
      have di : decide ((i : Int) < (n : Int)) = true := decide_eq_true hi2
      go_upto_region 5 with fail
      refine ireg5 wr g0 os i n c0 w.heap.size i cv pv _ (L i) _ _ _ _ _ _ _ _ _ _ _ _ _ _ _ _ _ _ _ _ _ _ _ _ _ _ _ _ _ _ _ _ _ _ _ hG.out (range_below (HR.out.2.1 i hlt) hI.out.b HR.out.2.2) (Nat.lt_of_lt_of_le HR.out.2.2 hI.out.b.size) hlt hn (HR.out.1 i hlt) hI.out.o hI.out.b.size (by omega) (fun v11 v12 v13 v14 v15 v16 v17 v18 v19 v20 v21 v22 v23 v24 v25 v26 v27 v28 v29 v30 v31 v32 v33 v34 v36 vw w1 w3 g hb hown hgrow hg => ?_)
      have I3 := Lib.hid (hI.out.push hb hown hgrow)
      have G3 := Lib.hid (show ∀ g', Value.slice (some ⟨g, 0, none⟩) 1 1 = .slice (some ⟨g', 0, none⟩) 1 1 → g' < w3.heap.size from fun g' e => by injection e with e; injection e with e; injection e with e; rw [← e]; exact hg)
      obtain ⟨pw, cw, rfl, -⟩ := owned_slice hown
      clear hb hown hgrow hg hI hG
      go_wp2_with fail
      go_roundw
      case rel => exact ⟨i + 1, by go_num, by omega, I3, G3⟩
      case measure => simp [intOf]; omega
    · have e : i = n := by omega
      subst e
      have di : decide ((i : Int) < (i : Int)) = false := decide_eq_false (by omega)
      go_wp2_with fail
      go_ret
      exact ⟨_, rfl, hI.out⟩
set_option maxRecDepth 100000 in
set_option maxHeartbeats 1000000 in
theorem pick14 (w : World) (p n : Int) (hp : -9223372036854775808 ≤ p ∧ p ≤ 9223372036854775807) (hn : 0 < n ∧ n ≤ 1000) : Calls Try.prog 14 #[.int .i64 p, .int .i64 n] w fun e w' => (∃ q : Int, e = .returned (.int .i64 q) ∧ 0 ≤ q ∧ q < n) ∧ w = w' := by
  obtain ⟨h1, h2⟩ := hp
  obtain ⟨h3, h4⟩ := hn
  by_cases hs : p < 0
  · go_enter Try.func14, Try.ntmps14
    go_wp2
    go_ret
    refine ⟨⟨_, rfl, ?_, ?_⟩, rfl⟩
    · rw [← Int.neg_tmod]; exact Int.tmod_nonneg _ (by omega)
    · rw [← Int.neg_tmod]; exact Int.tmod_lt_of_pos _ h3
  · go_enter Try.func14, Try.ntmps14
    go_wp2
    go_ret
    exact ⟨⟨_, rfl, Int.emod_nonneg _ (by omega), Int.emod_lt_of_pos _ h3⟩, rfl⟩
end Go.Proofs.Ytedkbjimofiphaa

namespace Go.Proofs.Ytedkbjimofiphaa
open Go.RowKit Fl
structure TO where
  a : Nat
  b : Nat
  q0 : Nat
  q1 : Nat
  q2 : Nat
  q3 : Nat
structure TO.OK (t : TO) : Prop where
  a : U t.a
  b : U t.b
  q0 : U t.q0
  q1 : U t.q1
  q2 : U t.q2
  q3 : U t.q3
structure TO.Sim (s t : TO) : Prop where
  a : pl s.a = pl t.a
  b : pl s.b = pl t.b
  q0 : pl s.q0 = pl t.q0
  q1 : pl s.q1 = pl t.q1
  q2 : pl s.q2 = pl t.q2
  q3 : pl s.q3 = pl t.q3
def TO.rc (t : TO) : List Value := [.float .f64 t.q0, .float .f64 t.q1, .float .f64 t.q2, .float .f64 t.q3]
def TO.cells (n : Nat) (t : TO) : List Value := [.int .i64 (n : Int), .float .f64 t.a, .float .f64 t.b, .float .f64 t.q0, .float .f64 t.q1, .float .f64 t.q2, .float .f64 t.q3]
theorem TO.rcAt {w : World} {g n : Nat} {t : TO} (h : w.rangeAt g 0 (t.cells n)) : w.rangeAt g 3 t.rc := fun j v hj => by
  have := h (3 + j) v (by rw [Nat.add_comm]; exact hj)
  rwa [Nat.zero_add] at this
set_option maxRecDepth 100000 in
set_option maxHeartbeats 2000000 in
theorem same17 (w : World) (n : Nat) (s t : TO) (hs : s.OK) (ht : t.OK) (h : s.Sim t) : Calls Try.prog 17 #[.agg (s.cells n).toArray, .agg (t.cells n).toArray] w fun e w' => e = .returned (.bool true) ∧ Below w.heap.size w w' := by
  obtain ⟨W, hW⟩ : ∃ W, W = (w.alloc (.cells (s.cells n).toArray 67)).alloc (.cells (t.cells n).toArray 67) := ⟨_, rfl⟩
  have S0 : W.rangeAt w.heap.size 0 (s.cells n) := by rw [hW]; exact World.rangeAt_alloc (range_new w _ 67) _
  have S1 : W.rangeAt (w.heap.size + 1) 0 (t.cells n) := by
    have := range_new (w.alloc (.cells (s.cells n).toArray 67)) (t.cells n) 67
    rw [World.size_alloc] at this
    rw [hW]; exact this
  have S2 := Lib.hid (show Below w.heap.size w W from by rw [hW]; exact ((Below.refl _ _).alloc (Nat.le_refl _) _).alloc (by simp) _)
  have L0 : w.heap.size + 1 < W.heap.size := by rw [hW]; simp
  have S := Lib.hid (show ∀ w', Below W.heap.size W w' → (w'.rangeAt w.heap.size 0 (s.cells n) ∧ w'.rangeAt (w.heap.size + 1) 0 (t.cells n)) from fun w' hb => ⟨range_below S0 hb (by omega), range_below S1 hb L0⟩)
  have HA := Lib.hid (And.intro hs (And.intro ht h))
  have HW := Lib.hid hW
  have RA := Lib.hid (TO.rcAt S0)
  have RB := Lib.hid (TO.rcAt S1)
  have Z4 := Lib.hid (show (Try.prog.info? 33).map (·.size) = some s.rc.length from info33)
  have Z4b := Lib.hid (show (Try.prog.info? 33).map (·.size) = some t.rc.length from info33)
  clear hs ht h S0 S1 L0 hW
  go_enter Try.func17, Try.ntmps17
  go_upto_region 1 with fail
  rw [← HW.out]
  clear HW
  go_wp2_with (first
    | (refine wpList_load_mid rfl 33 (.tmp 6) rfl w.heap.size 3 rfl s.rc _ RA.out Try.underlying33 rfl Z4.out ?_)
    | (refine wpList_load_mid rfl 33 (.tmp 8) rfl (w.heap.size + 1) 3 rfl t.rc _ RB.out Try.underlying33 rfl Z4b.out ?_))
  go_at_call 11
  refine (show Calls Try.prog 11 #[.agg s.rc.toArray, .agg t.rc.toArray] W _ from k54 (RV.self HA.out.1.q0) ⟨HA.out.2.1.q0, HA.out.2.2.q0.symm⟩ (RV.self HA.out.1.q1) ⟨HA.out.2.1.q1, HA.out.2.2.q1.symm⟩ (RV.self HA.out.1.q2) ⟨HA.out.2.1.q2, HA.out.2.2.q2.symm⟩ (RV.self HA.out.1.q3) ⟨HA.out.2.1.q3, HA.out.2.2.q3.symm⟩ W).mono fun e w1 ⟨he, b1⟩ => ?_
  subst he
  have B1 := Lib.hid b1
  have c0 := (S.out w1 b1).1 0 _ rfl
  have c1 := (S.out w1 b1).1 1 _ rfl
  have c2 := (S.out w1 b1).1 2 _ rfl
  have d0 := (S.out w1 b1).2 0 _ rfl
  have d1 := (S.out w1 b1).2 1 _ rfl
  have d2 := (S.out w1 b1).2 2 _ rfl
  simp only [Nat.zero_add] at c0 c1 c2 d0 d1 d2
  have eqn : ((n : Int) == (n : Int)) = true := by simp
  have CA := Lib.hid (c24t s.a t.a w1 HA.out.1.a HA.out.2.1.a HA.out.2.2.a)
  have CB := Lib.hid (c24t s.b t.b w1 HA.out.1.b HA.out.2.1.b HA.out.2.2.b)
  clear b1 RA RB Z4 Z4b
  go_wp2_with fail
  go_at_call 22
  refine CA.out.mono fun e w2 ⟨he, hw⟩ => ?_
  subst he hw
  go_wp2_with fail
  go_at_call 22
  refine CB.out.mono fun e w2 ⟨he, hw⟩ => ?_
  subst he hw
  go_wp2
  go_ret
  exact ⟨rfl, S2.out.trans (B1.out.mono S2.out.size)⟩
set_option maxRecDepth 100000 in
set_option maxHeartbeats 4000000 in
theorem total16z (w : World) (A : Option Addr) (c : Nat) (T : Nat → ITM) :
    Calls Try.prog 16 #[.slice A 0 c] w fun e w' => (∃ a b q0 q1 q2 q3, e = .returned (totV 0 a b q0 q1 q2 q3) ∧ TotR T 0 a b q0 q1 q2 q3) ∧ Below w.heap.size w w' := by
  obtain ⟨W0, hW0⟩ : ∃ W0, W0 = w.alloc (.cells #[.int .i64 0, .float .f64 0, .float .f64 0, .float .f64 0, .float .f64 0, .float .f64 0, .float .f64 0] 67) := ⟨_, rfl⟩
  have t0 : W0.there w.heap.size 0 7 := by rw [hW0]; exact there_new w _ 67 7 rfl
  have s0 : W0.heap.size = w.heap.size + 1 := by rw [hW0]; simp
  have b0 : Below w.heap.size w W0 := by rw [hW0]; exact (Below.refl _ _).alloc (Nat.le_refl _) _
  have I0 := Lib.hid (And.intro t0 (And.intro s0 b0))
  have HW := Lib.hid hW0
  clear hW0 t0 s0 b0
  go_enter Try.func16, Try.ntmps16
  go_upto_region 1 with fail
  rw [← HW.out]
  clear HW
  go_wp2_with fail
  go_at_call 19
  refine (c35 W0).mono ?_
  rintro e w1 ⟨rfl, ha, hb, hs⟩
  have I1 := Lib.hid (And.intro ha (And.intro hb hs))
  clear ha hb hs
  go_wp2_with fail
  go_at_call 19
  refine (c35 w1).mono ?_
  rintro e w2 ⟨rfl, ha, hb, hs⟩
  have A0 := Lib.hid (show TA w w2 W0.heap.size w1.heap.size T 0 [] [] from
    ⟨I1.out.1.below hb I1.out.2.2, ha, by have := I0.out.2.1; omega, I1.out.2.2, hs, there_below (there_below I0.out.1 I1.out.2.1 (by have := I0.out.2.1; omega)) hb (by have := I0.out.2.1; have := I1.out.2.2; omega), (I0.out.2.2.trans (I1.out.2.1.mono I0.out.2.2.size)).trans (hb.mono (by have := I0.out.2.1; have := I1.out.2.2; omega)), (fun x hx => by cases hx), (fun x hx => by cases hx), rfl, rfl⟩)
  clear ha hb hs I0 I1
  generalize W0.heap.size = a3 at *
  generalize w1.heap.size = a4 at *
  go_wp2_with fail
  have d0 : decide ((0 : Int) < 0) = false := by decide
  go_loopw [14] (fun ii wx => ii = .int .i64 0 ∧ Hid (TA w wx a3 a4 T 0 [] [])) (fun _ _ => 0)
  case atStart => exact ⟨by go_num, A0⟩
  case round =>
    obtain ⟨rfl, hA⟩ := hrel
    clear A0
    · have lens : 0 = 0 := rfl
      go_wp2_with fail
      go_at_call 39
      refine (bounds39z wr A c).mono ?_
      rintro e w3 ⟨rfl, hb3⟩
      have W3 := Lib.hid (hA.out.below hb3)
      have T4 := Lib.hid (there_new w3 #[.float .f64 0, .float .f64 0, .float .f64 0, .float .f64 0] 33 4 rfl)
      have N4 := Lib.hid (new_row w3 #[.float .f64 0, .float .f64 0, .float .f64 0, .float .f64 0] 33 [.float .f64 0, .float .f64 0, .float .f64 0, .float .f64 0] rfl)
      clear hb3 hA
      go_upto_region 10 with (refine wpList_store_mid rfl 33 (.tmp 8) (.tmp 33) rfl w3.heap.size 0 #[.float .f64 0, .float .f64 0, .float .f64 0, .float .f64 0] rfl rfl T4.out size33 (oneF [0, 0, 0, 0]) ?_)
      obtain ⟨b4, r4, -, s4⟩ := N4.out
      have W4 := W3.out.below b4
      have sz := W3.out.lt
      clear T4 N4 b4 W3
      generalize (w3.alloc (.cells #[.float .f64 0, .float .f64 0, .float .f64 0, .float .f64 0] 33)).setCells w3.heap.size 0 [.float .f64 0, .float .f64 0, .float .f64 0, .float .f64 0] = w4 at *
      generalize w3.heap.size = p8 at *
      refine treg10 w4 A 0 c w.heap.size a3 a4 p8 (accS []) (accS []) 0 0 0 0 _ _ _ _ _ _ _ _ _ _ _ _ _ _ _ _ _ _ _ _ _ _ _ _ _ _ _ _ _ _ _ _ _ _ _ _ _ _ W4.c3 W4.c4 (by have := W4.l4; have := W4.lt; omega) W4.lt (by have := W4.l4; omega) (acc_small [] (by decide)) (acc_small [] (by decide)) W4.t (by have := W4.l3; have := W4.l4; have := W4.lt; omega) r4 (by omega) (fun v35 v36 v37 v38 v39 v40 v41 v42 a b w6 hb6 ha hb => ?_)
      have TR := Lib.hid (show TotR T 0 a b 0 0 0 0 from ⟨by rw [← W4.p1, ← accS_places W4.u1]; exact ha, by rw [← W4.p2, ← accS_places W4.u2]; exact hb, by rw [if_pos rfl]; exact RV_zero, by rw [if_pos rfl]; exact RV_zero, by rw [if_pos rfl]; exact RV_zero, by rw [if_pos rfl]; exact RV_zero⟩)
      have W6 := Lib.hid (W4.below hb6)
      clear W4 hb6 ha hb sz r4 s4
      have TH := Lib.hid W6.out.t
      go_wp2
      refine bodyPost_ret (v := .agg _) (ret_row Try.prog Try.results16 rfl _ TH.out Try.underlying67 rfl size67) rfl ?_
      exact ⟨⟨a, b, 0, 0, 0, 0, rfl, TR.out⟩, below_setCells W6.out.b (Nat.le_refl _) 0 _⟩
end Go.Proofs.Ytedkbjimofiphaa

namespace Go.Proofs.Ytedkbjimofiphaa
open Go.RowKit Fl
def A0s : SH := ⟨1, -1, 0, 0, 4621819117588971520, 4621819117588971520, idL, 4607182418800017408, 0⟩
def A1s : SH := ⟨2, 0, 4607182418800017408, 4611686018427387904, 4613937818241073152, 4616189618054758400, idL, 4607182418800017408, 4607182418800017408⟩
def A2s : SH := ⟨3, 0, 4617315517961601024, 4617315517961601024, 4607182418800017408, 4607182418800017408, idL, 4607182418800017408, 0⟩
def AS3 (i : Nat) : SH := match i with
  | 0 => A0s
  | 1 => A1s
  | _ => A2s
def AB (i : Nat) : BX := (AS3 i).bx
def AL (i : Nat) : LK := lkR AS3 i
theorem AL_eq : AL 0 = A0s.lk ∧ AL 1 = A1s.lk ∧ AL 2 = A2s.lk := ⟨by kernel_rfl, by kernel_rfl, by kernel_rfl⟩
theorem A_whole : whole 3 (abO AB) (kf (lvO AL)) = [0, 2, 1] := by kernel_rfl
theorem row_is {ms ys : List Nat} (hm : MU ms) (hl : ys.length = 16) (h : ∀ j, j < 16 → mp ms j = pl (ys.getD j 0)) (hy : ys.all (fun y => decide (y < 18446744073709551616) && !isN y) = true) : ms = ys := by
  refine List.ext_getElem (by rw [hm.1, hl]) fun j h1 h2 => ?_
  have hj : j < 16 := by rw [← hm.1]; exact h1
  have hY := List.all_eq_true.1 hy ys[j] (List.getElem_mem h2)
  simp only [Bool.and_eq_true, decide_eq_true_eq, Bool.not_eq_true'] at hY
  have e1 : ms.getD j 0 = ms[j] := by rw [List.getD_eq_getElem?_getD, List.getElem?_eq_getElem h1]; rfl
  have e2 : ys.getD j 0 = ys[j] := by rw [List.getD_eq_getElem?_getD, List.getElem?_eq_getElem h2]; rfl
  refine word_is (P := pl ys[j]) ⟨hm.2 _ (List.getElem_mem h1), ?_⟩ ys[j] hY.1 hY.2 rfl
  have := h j hj
  unfold mp at this
  rw [e1, e2] at this
  exact this
def M1 : List Nat := moveL 4607182418800017408 4611686018427387904 0
def M2 : List Nat := moveL 4617315517961601024 4617315517961601024 0
theorem all16 {f g : Nat → Int} (h : ((List.range 16).map f == (List.range 16).map g) = true) : ∀ j, j < 16 → f j = g j := fun j hj => by
  have e := eq_of_beq h
  have := congrArg (fun l => l[j]?) e
  simpa [List.getElem?_map, List.getElem?_range hj] using this
theorem A_is {MS : Nat → List Nat} {OS : Nat → Nat} (h : PR AB AL 3 MS OS) : (MS 0 = idL ∧ MS 1 = M1 ∧ MS 2 = M2) ∧ OS 0 = 4607182418800017408 ∧ OS 1 = 4607182418800017408 ∧ OS 2 = 4607182418800017408 := by
  have a0 : abO AB 0 = none := by kernel_rfl
  have a1 : abO AB 1 = some 0 := by kernel_rfl
  have a2 : abO AB 2 = some 0 := by kernel_rfl
  have m0 : MS 0 = idL := row_is (h.mu 0 (by omega)) (by kernel_rfl) (fun j hj => by
    rw [h.me 0 (by omega) j hj, a0, AL_eq.1]
    exact all16 (f := fun j => timesP (timesP (upM MS none) (mp (moveL (AB 0).x (AB 0).y 0))) (mp A0s.lk.m) j) (g := fun j => pl (idL.getD j 0)) (by kernel_rfl) j hj) (by kernel_rfl)
  have e1 : upM MS (some 0) = mp idL := by funext j; show mp (MS 0) j = mp idL j; rw [m0]
  have m1 : MS 1 = M1 := row_is (h.mu 1 (by omega)) (by kernel_rfl) (fun j hj => by
    rw [h.me 1 (by omega) j hj, a1, AL_eq.2.1, e1]
    exact all16 (f := fun j => timesP (timesP (mp idL) (mp (moveL (AB 1).x (AB 1).y 0))) (mp A1s.lk.m) j) (g := fun j => pl (M1.getD j 0)) (by kernel_rfl) j hj) (by kernel_rfl)
  have m2 : MS 2 = M2 := row_is (h.mu 2 (by omega)) (by kernel_rfl) (fun j hj => by
    rw [h.me 2 (by omega) j hj, a2, AL_eq.2.2, e1]
    exact all16 (f := fun j => timesP (timesP (mp idL) (mp (moveL (AB 2).x (AB 2).y 0))) (mp A2s.lk.m) j) (g := fun j => pl (M2.getD j 0)) (by kernel_rfl) j hj) (by kernel_rfl)
  have o0 : OS 0 = 4607182418800017408 := word_is (P := opP .mul (pl 4607182418800017408) (pl 4607182418800017408)) ⟨h.ou 0 (by omega), by rw [h.oe 0 (by omega), a0, AL_eq.1]; rfl⟩ _ (by unfold U; decide) (by decide) (by kernel_rfl)
  have o1 : OS 1 = 4607182418800017408 := word_is (P := opP .mul (pl 4607182418800017408) (pl 4607182418800017408)) ⟨h.ou 1 (by omega), by rw [h.oe 1 (by omega), a1, AL_eq.2.1]; show opP .mul (pl (OS 0)) _ = _; rw [o0]; rfl⟩ _ (by unfold U; decide) (by decide) (by kernel_rfl)
  have o2 : OS 2 = 4607182418800017408 := word_is (P := opP .mul (pl 4607182418800017408) (pl 4607182418800017408)) ⟨h.ou 2 (by omega), by rw [h.oe 2 (by omega), a2, AL_eq.2.2]; show opP .mul (pl (OS 0)) _ = _; rw [o0]; rfl⟩ _ (by unfold U; decide) (by decide) (by kernel_rfl)
  exact ⟨⟨m0, m1, m2⟩, o0, o1, o2⟩
/-- the items as they are painted -/
def ITs (b : BX) (ms : List Nat) (o : Nat) : ITM := ⟨b.sl, b.gn, 0, 0, b.w, b.h, ms, o⟩
def AT (k : Nat) : ITM := match k with
  | 0 => ITs (AB 0) idL 4607182418800017408
  | 1 => ITs (AB 2) M2 4607182418800017408
  | _ => ITs (AB 1) M1 4607182418800017408
theorem A_hits : hitL (fun k => inP (AT k) (pl 4609434218613702656) (pl 4612811918334230528)) 3 = [2, 0] := by kernel_rfl
theorem A_area : pV (accP (arL AT 3)) = pl 4637652085028945920 := by kernel_rfl
end Go.Proofs.Ytedkbjimofiphaa

namespace Go.Proofs.Ytedkbjimofiphaa
open Go.RowKit Fl
theorem all_MU {l : List Nat} (h1 : l.length = 16) (h : l.all (fun y => decide (y < 18446744073709551616)) = true) : MU l := ⟨h1, fun u hu => by
  have := List.all_eq_true.1 h u hu
  simpa [U] using this⟩
theorem AS3_OK : ∀ i, i < 3 → (AS3 i).OK := fun i hi => by
  have u : ∀ x : Nat, decide (x < 18446744073709551616) = true → U x := fun x h => by simpa [U] using h
  rcases (show i = 0 ∨ i = 1 ∨ i = 2 by omega) with rfl | rfl | rfl <;> exact ⟨u _ (by kernel_rfl), u _ (by kernel_rfl), u _ (by kernel_rfl), u _ (by kernel_rfl), idL_MU, u _ (by kernel_rfl), u _ (by kernel_rfl)⟩
theorem AT_OK : ∀ i, i < 3 → (AT i).OK := fun i hi => by
  have u : ∀ x : Nat, decide (x < 18446744073709551616) = true → U x := fun x h => by simpa [U] using h
  rcases (show i = 0 ∨ i = 1 ∨ i = 2 by omega) with rfl | rfl | rfl <;> exact ⟨u _ (by kernel_rfl), u _ (by kernel_rfl), u _ (by kernel_rfl), u _ (by kernel_rfl), all_MU (by kernel_rfl) (by kernel_rfl), u _ (by kernel_rfl)⟩
theorem AB_OK {i : Nat} (hi : i < 3) : (AB i).OK := by
  have h := AS3_OK i hi
  exact ⟨h.x, h.y, h.w, h.h⟩
theorem A_rows (w : World) : ∀ i, i < 3 → (w.alloc (.cells (A0s.cells ++ (A1s.cells ++ A2s.cells)).toArray 56)).rangeAt w.heap.size (0 + i * 24) (AS3 i).cells := fun i hi => by
  have e : A0s.cells ++ (A1s.cells ++ A2s.cells) = (List.range 3).flatMap fun k => (AS3 k).cells := by kernel_rfl
  rw [e, Nat.zero_add]
  exact range_part (range_new w _ 56) fun j v hj => by
    have hl := (List.getElem?_eq_some_iff.1 hj).1
    rw [sh_len (AS3_OK i hi)] at hl
    rw [flatR_get 3 i j (fun k hk => sh_len (AS3_OK k hk)) hi hl]; exact hj
theorem A_cells {MS : Nat → List Nat} {OS : Nat → Nat} (h : PR AB AL 3 MS OS) : (whole 3 (abO AB) (kf (lvO AL))).flatMap (fun i => itCells (AB i) (MS i) (OS i)) = (List.range 3).flatMap fun k => (AT k).cells := by
  obtain ⟨⟨m0, m1, m2⟩, o0, o1, o2⟩ := A_is h
  rw [A_whole]
  simp only [List.flatMap_cons, List.flatMap_nil, m0, m1, m2, o0, o1, o2]
  rfl
theorem builtA0 : Try.prog.built 56 [(0, .int .i64 1), (1, .int .i64 (-1)), (2, .agg #[.float .f64 0, .float .f64 0, .float .f64 4621819117588971520, .float .f64 4621819117588971520]), (3, .agg (idL.map (Value.float .f64)).toArray), (4, .float .f64 4607182418800017408)] = some A0s.cells.toArray := by kernel_rfl
theorem builtA1 : Try.prog.built 56 [(0, .int .i64 2), (2, .agg #[.float .f64 4607182418800017408, .float .f64 4611686018427387904, .float .f64 4613937818241073152, .float .f64 4616189618054758400]), (3, .agg (idL.map (Value.float .f64)).toArray), (4, .float .f64 4607182418800017408), (5, .float .f64 4607182418800017408)] = some A1s.cells.toArray := by kernel_rfl
theorem builtA2 : Try.prog.built 56 [(0, .int .i64 3), (2, .agg #[.float .f64 4617315517961601024, .float .f64 4617315517961601024, .float .f64 4607182418800017408, .float .f64 4607182418800017408]), (3, .agg (idL.map (Value.float .f64)).toArray), (4, .float .f64 4607182418800017408)] = some A2s.cells.toArray := by kernel_rfl
theorem zero56 : ((Try.prog.info? 56).bind (·.zero)).isSome = true := by kernel_rfl
set_option maxRecDepth 100000 in
set_option maxHeartbeats 4000000 in
theorem awake6 (w : World) : Calls Try.prog 6 #[] w fun e w' => e = .returned (.bool true) ∧ Below w.heap.size w w' := by
  have SA := Lib.hid (size80A idL (by decide))
  have SL := Lib.hid (size80L idL (by decide))
  go_enter Try.func6, Try.ntmps6
  go_wp2_with fail
  go_at_call 12
  refine (k88 w).mono ?_
  rintro e w1 ⟨rfl, hb1⟩
  have B1 := Lib.hid hb1
  have NM := Lib.hid (new_mat w1 idL_MU)
  clear hb1
  go_upto_region 2 with (refine wpList_store_mid rfl 44 (.tmp 1) (.tmp 7) rfl w1.heap.size 0 (idL.map (Value.float .f64)).toArray rfl rfl NM.out.1 SA.out (one16 idL) ?_)
  show Code.wp _ _ _ _ ((w1.alloc (.cells Z16 44)).setCells w1.heap.size 0 (idL.map (Value.float .f64)))
  obtain ⟨-, b2, r2, s2⟩ := NM.out
  have R2 := Lib.hid r2
  have B2 := Lib.hid (B1.out.trans (b2.mono B1.out.size))
  have RW := Lib.hid (A_rows ((w1.alloc (.cells Z16 44)).setCells w1.heap.size 0 (idL.map (Value.float .f64))))
  clear b2 r2 s2 NM SA B1
  generalize (w1.alloc (.cells Z16 44)).setCells w1.heap.size 0 (idL.map (Value.float .f64)) = w2 at *
  generalize w1.heap.size = p1 at *
  have HI := Lib.hid (show idL = idL from rfl)
  go_upto_region 3 with (first
    | (refine wpList_load_mid rfl 44 (.tmp 1) rfl p1 0 rfl (idL.map (Value.float .f64)) _ R2.out Try.underlying44 rfl SL.out ?_)
    | (refine wpList_builtC rfl 56 [(0, .const (.int .i64 1)), (1, .const (.int .i64 (-1))), (2, .tmp 8), (3, .tmp 9), (4, .const (.float .f64 4607182418800017408))] rfl _ A0s.cells.toArray rfl builtA0 ?_)
    | (refine wpList_builtC rfl 56 [(0, .const (.int .i64 2)), (2, .tmp 11), (3, .tmp 12), (4, .const (.float .f64 4607182418800017408)), (5, .const (.float .f64 4607182418800017408))] rfl _ A1s.cells.toArray rfl builtA1 ?_)
    | (refine wpList_builtC rfl 56 [(0, .const (.int .i64 3)), (2, .tmp 14), (3, .tmp 15), (4, .const (.float .f64 4607182418800017408))] rfl _ A2s.cells.toArray rfl builtA2 ?_)
    | (refine Go.Great.wpList_buildRows rfl 22 56 #[(0, .tmp 10), (1, .tmp 13), (2, .tmp 16)] 24 [Value.agg A0s.cells.toArray, .agg A1s.cells.toArray, .agg A2s.cells.toArray] rfl (fun k => 10 + 3 * k) w2.heap.size rfl (some 17) rfl Try.underlying22 sz56 zero56 (by decide) (by decide) (by decide) rfl (fun v hv => by
        rcases List.mem_cons.1 hv with rfl | hv
        · rfl
        · rcases List.mem_cons.1 hv with rfl | hv
          · rfl
          · rw [List.mem_singleton.1 hv]; rfl) (fun k hk => by match k, hk with | 0, _ => rfl | 1, _ => rfl | 2, _ => rfl) ?_))
  have R3 := RW.out
  have B3 := Lib.hid (show Below w.heap.size w (w2.alloc (.cells (A0s.cells ++ (A1s.cells ++ A2s.cells)).toArray 56)) from B2.out.alloc B2.out.size _)
  have L3 : w2.heap.size < (w2.alloc (.cells (A0s.cells ++ (A1s.cells ++ A2s.cells)).toArray 56)).heap.size := by simp
  clear RW R2 SL B2
  generalize w2.alloc (.cells (A0s.cells ++ (A1s.cells ++ A2s.cells)).toArray 56) = w3 at *
  generalize w2.heap.size = gs at *
  have C7 := Lib.hid (c7 w3 gs 0 3 3 AS3 AS3_OK R3 L3 (by decide))
  clear R3 L3
  go_wp2_with fail
  go_at_call 7
  refine C7.out.mono fun e w4 ⟨bv, lv, he, hR⟩ => ?_
  subst he
  obtain ⟨pb, cb, rfl, -⟩ := owned_slice hR.ob
  obtain ⟨pl', cl, rfl, -⟩ := owned_slice hR.ol
  obtain ⟨gb, rfl, -, gb2⟩ := owned_some hR.ob (by decide)
  obtain ⟨gl, rfl, -, gl2⟩ := owned_some hR.ol (by decide)
  have B4 := Lib.hid (B3.out.trans (hR.bl.mono B3.out.size))
  have C8 := Lib.hid (c8 w4 gb gl 3 cb cl AB AL (fun i hi => owned_rec (f := fun k => (AB k).cells) (fun k hk => rfl) hR.ob hi) (fun i hi => owned_rec (f := fun k => (AL k).cells) (fun k hk => lk_len (lkR_OK (i := k) AS3_OK hk)) hR.ol hi) gb2 gl2 (fun i hi => AB_OK hi) (fun i hi => lkR_OK AS3_OK hi) (by decide) (same_lkR AS3 3))
  clear C7 hR gb2 gl2 B3
  go_wp2_with fail
  go_at_call 8
  refine C8.out.mono fun e w5 ⟨ov, av, MS, OS, he, pr, ho, ha, hb⟩ => ?_
  subst he
  rw [A_cells pr] at ho
  obtain ⟨po, co, rfl, -⟩ := owned_slice ho
  obtain ⟨pa, ca, rfl, -⟩ := owned_slice ha
  obtain ⟨g, rfl, -, g2⟩ := owned_some ho (by decide)
  have RT := Lib.hid (show ∀ k, k < 3 → w5.rangeAt g (k * 23) (AT k).cells from fun k hk => owned_rec (f := fun k => (AT k).cells) (fun k hk => ITM.len (AT_OK k hk)) ho hk)
  have G2 := Lib.hid g2
  have B5 := Lib.hid (B4.out.trans (hb.mono B4.out.size))
  have u1 : U 4609434218613702656 := by unfold U; decide
  have u2 : U 4612811918334230528 := by unfold U; decide
  have CH := Lib.hid (hit18 w5 g 3 co AT 4609434218613702656 4612811918334230528 AT_OK (by decide) RT.out G2.out (RV.self u1) (RV.self u2))
  clear C8 pr ho ha hb g2 B4 u1 u2
  go_upto_region 6 with fail
  go_wp2_with fail
  go_at_call 18
  refine CH.out.mono fun e w6 ⟨v, he, hS⟩ => ?_
  subst he
  rw [A_hits] at hS
  obtain ⟨ph, ch, hv, -⟩ := owned_slice hS.o
  have hv : v = .slice ph 2 ch := hv
  subst hv
  obtain ⟨gh, rfl, -, gh2⟩ := owned_some (n := 2) hS.o (by decide)
  have R6 := Lib.hid (show ∀ k, k < 3 → w6.rangeAt g (k * 23) (AT k).cells from fun k hk => range_below (RT.out k hk) hS.b G2.out)
  have G6 := Lib.hid (Nat.lt_of_lt_of_le G2.out hS.b.size)
  have B6 := Lib.hid (B5.out.trans (hS.b.mono B5.out.size))
  have H6 := Lib.hid (show w6.cell? ⟨gh, 0, none⟩ = some (.int .u32 2) ∧ gh < w6.heap.size from ⟨by rw [hS.o.cellAt 0 (by decide)]; kernel_rfl, gh2⟩)
  have CT := Lib.hid (total16 w6 g 3 co AT AT_OK (by decide) (by decide) R6.out G6.out)
  clear CH hS gh2 RT G2 B5
  go_upto_region 7 with fail
  go_wp2_with fail
  go_at_call 16
  refine CT.out.mono fun e w7 ⟨⟨a, b, q0, q1, q2, q3, he, hT⟩, hb7⟩ => ?_
  subst he
  have ea : a = 4637652085028945920 := word_is hT.a _ (by unfold U; decide) (by decide) A_area
  subst ea
  have T7 := Lib.hid (there_new w7 #[.int .i64 0, .float .f64 0, .float .f64 0, .float .f64 0, .float .f64 0, .float .f64 0, .float .f64 0] 67 7 rfl)
  have N7 := Lib.hid (new_row w7 #[.int .i64 0, .float .f64 0, .float .f64 0, .float .f64 0, .float .f64 0, .float .f64 0, .float .f64 0] 67 (TO.cells 3 ⟨4637652085028945920, b, q0, q1, q2, q3⟩) rfl)
  have B7 := Lib.hid (B6.out.trans (hb7.mono B6.out.size))
  have c1 : w7.cell? ⟨g, 23, none⟩ = some (.int .u32 3) := (hb7.cell (p := ⟨g, 23, none⟩) G6.out).trans (R6.out 1 (by decide) 0 _ rfl)
  have c2 : w7.cell? ⟨g, 46, none⟩ = some (.int .u32 2) := (hb7.cell (p := ⟨g, 46, none⟩) G6.out).trans (R6.out 2 (by decide) 0 _ rfl)
  have c3 : w7.cell? ⟨gh, 0, none⟩ = some (.int .u32 2) := (hb7.cell (p := ⟨gh, 0, none⟩) H6.out.2).trans H6.out.1
  have G7 := Nat.lt_of_lt_of_le G6.out hb7.size
  have H7 := Nat.lt_of_lt_of_le H6.out.2 hb7.size
  clear CT hT hb7 R6 G6 H6 B6
  go_upto_region 8 with (refine wpList_store_mid rfl 67 (.tmp 6) (.tmp 37) rfl w7.heap.size 0 (TO.cells 3 ⟨4637652085028945920, b, q0, q1, q2, q3⟩).toArray rfl rfl T7.out size67 (by kernel_rfl) ?_)
  show Code.wp _ _ _ _ ((w7.alloc (.cells #[.int .i64 0, .float .f64 0, .float .f64 0, .float .f64 0, .float .f64 0, .float .f64 0, .float .f64 0] 67)).setCells w7.heap.size 0 (TO.cells 3 ⟨4637652085028945920, b, q0, q1, q2, q3⟩))
  obtain ⟨b8, r8, -, s8⟩ := N7.out
  have d1 := (b8.cell (p := ⟨g, 23, none⟩) G7).trans c1
  have d2 := (b8.cell (p := ⟨g, 46, none⟩) G7).trans c2
  have d3 := (b8.cell (p := ⟨gh, 0, none⟩) H7).trans c3
  have d4 := r8 0 _ rfl
  have d5 := r8 1 _ rfl
  simp only [Nat.zero_add] at d4 d5
  have B8 := Lib.hid (B7.out.trans (b8.mono B7.out.size))
  clear c1 c2 c3 G7 H7 T7 N7 b8 r8 s8 B7
  generalize (w7.alloc (.cells #[.int .i64 0, .float .f64 0, .float .f64 0, .float .f64 0, .float .f64 0, .float .f64 0, .float .f64 0] 67)).setCells w7.heap.size 0 (TO.cells 3 ⟨4637652085028945920, b, q0, q1, q2, q3⟩) = w8 at *
  generalize w7.heap.size = p6 at *
  have FE : (FloatKind.f64.format.order 4637652085028945920 4637652085028945920 == some Ordering.eq) = true := by decide
  go_wp2
  go_ret
  exact ⟨rfl, B8.out⟩
end Go.Proofs.Ytedkbjimofiphaa

namespace Go.Proofs.Ytedkbjimofiphaa
open Go.RowKit Fl
theorem ne30 (w : World) (a b c d : Int) : (binOp .neq 30 (.agg #[.int .u32 a, .int .u32 b]) (.agg #[.int .u32 c, .int .u32 d])).run Try.prog w = .ok (.bool (!(a == c && b == d))) w := by
  have h := equal30 9998 w a b c d
  rw [show (9998 + 1 + 1 : Nat) = Op.maxDepth from rfl] at h
  have h2 : (Op.equal 30 (.agg #[.int .u32 a, .int .u32 b]) (.agg #[.int .u32 c, .int .u32 d])).run Try.prog w = .ok (a == c && b == d) w := h
  unfold binOp
  simp only [Sem.run_bind, h2, Result.andThen_ok, Sem.run_pure]
end Go.Proofs.Ytedkbjimofiphaa

namespace Go.Proofs.Ytedkbjimofiphaa
open Go.RowKit Fl
theorem flat_getD (l : List Nat) (f : Nat → List Value) : l.flatMap f = (List.range l.length).flatMap fun k => f (l.getD k 0) := by
  have e : l = (List.range l.length).map fun k => l.getD k 0 := by
    refine List.ext_getElem (by simp) fun j h1 h2 => ?_
    simp [List.getD_eq_getElem?_getD, List.getElem?_eq_getElem h1]
  conv => lhs; rw [e]
  rw [List.flatMap_map]
/-- the k-th painted item -/
def PA (b : Nat → BX) (L : Nat → LK) (n : Nat) (MS : Nat → List Nat) (OS : Nat → Nat) (k : Nat) : ITM :=
  let i := (whole n (abO b) (kf (lvO L))).getD k 0
  ITs (b i) (MS i) (OS i)
theorem U_zero : U 0 := by unfold U; decide
def bx77 : List Value := [.int .u32 0, .int .u32 0, .int .i64 77, .float .f64 0, .float .f64 0, .float .f64 0, .float .f64 0]
/-- what stands behind the marked copy of the boxes -/
structure MK (w0 w : World) (S : Nat → SH) (n gb gl gm cm : Nat) : Prop where
  b : Below w0.heap.size w0 w
  rb : ∀ k, k < n → w.rangeAt gb (k * 7) (S k).bx.cells
  rl : ∀ k, k < n → w.rangeAt gl (k * 54) (lkR S k).cells
  rm : ∀ k, k < n → w.rangeAt gm (k * 7) (S k).bx.cells
  c77 : w.cell? ⟨gm, n * 7 + 2, none⟩ = some (.int .i64 77)
  cap : n + 1 ≤ cm
  lb : gb < w.heap.size
  ll : gl < w.heap.size
  lm : gm < w.heap.size
theorem MK.below {w0 w w' : World} {S : Nat → SH} {n gb gl gm cm : Nat} (h : MK w0 w S n gb gl gm cm) (hb : Below w.heap.size w w') : MK w0 w' S n gb gl gm cm :=
  ⟨h.b.trans (hb.mono h.b.size), fun k hk => range_below (h.rb k hk) hb h.lb, fun k hk => range_below (h.rl k hk) hb h.ll, fun k hk => range_below (h.rm k hk) hb h.lm, (hb.cell (p := ⟨gm, n * 7 + 2, none⟩) h.lm).trans h.c77, h.cap,
    Nat.lt_of_lt_of_le h.lb hb.size, Nat.lt_of_lt_of_le h.ll hb.size, Nat.lt_of_lt_of_le h.lm hb.size⟩
theorem MK.of {w0 w2 w4 : World} {S : Nat → SH} {n gb gl gm cm cb cl : Nat} (hS : ∀ k, k < n → (S k).OK) (hR : RS w0 w2 S n (.slice (some ⟨gb, 0, none⟩) n cb) (.slice (some ⟨gl, 0, none⟩) n cl)) (gb2 : gb < w2.heap.size) (gl2 : gl < w2.heap.size)
    (hb : Below w2.heap.size w2 w4) (ho : w4.ownsRow w2.heap.size 35 7 (.slice (some ⟨gm, 0, none⟩) (n + 1) cm) (n + 1) ((List.range n).flatMap (fun k => (S k).bx.cells) ++ bx77)) : MK w0 w4 S n gb gl gm cm := by
  have hl : ((List.range n).flatMap (fun k => (S k).bx.cells)).length = n * 7 := flatR_len (f := fun k => (S k).bx.cells) (s := 7) n (fun k hk => rfl)
  have cell : ∀ j, j < (n + 1) * 7 → w4.cell? ⟨gm, j, none⟩ = ((List.range n).flatMap (fun k => (S k).bx.cells) ++ bx77)[j]? := fun j hj => ho.cellAt j hj
  refine ⟨hR.bl.trans (hb.mono hR.bl.size), fun k hk => range_below (owned_rec (f := fun k => (S k).bx.cells) (fun k hk => rfl) hR.ob hk) hb gb2, fun k hk => ?_, fun k hk j v hj => ?_, ?_, ?_, Nat.lt_of_lt_of_le gb2 hb.size, Nat.lt_of_lt_of_le gl2 hb.size, (ho.lt gm rfl).2⟩
  · exact range_below (owned_rec (f := fun k => (lkR S k).cells) (fun k hk => lk_len (lkR_OK (i := k) hS hk)) hR.ol hk) hb gl2
  · have h7 := (List.getElem?_eq_some_iff.1 hj).1
    rw [show (S k).bx.cells.length = 7 from rfl] at h7
    have hb2 : k * 7 + j < n * 7 := by omega
    rw [cell _ (by omega), List.getElem?_append_left (by omega), flatR_get (f := fun k => (S k).bx.cells) (s := 7) n k j (fun k hk => rfl) hk h7]; exact hj
  · rw [cell _ (by omega), List.getElem?_append_right (by omega), hl]
    simp [bx77]
  · rcases ho.2 with ⟨h1, h2⟩ | ⟨g, cap, cur, h1, h2, h3, h4, h5⟩
    · cases h1
    · injection h1 with h1 h6 h7
      omega
/-- the plain look -/
def LKp : LK := ⟨4607182418800017408, 0, idL⟩
structure PL (w0 w : World) (v : Value) (i : Nat) : Prop where
  o : w.ownsRow w0.heap.size 52 54 v i ((List.range i).flatMap fun _ => LKp.cells)
  b : Below w0.heap.size w0 w
theorem PL.below {w0 w w' : World} {v : Value} {i : Nat} (h : PL w0 w v i) (hb : Below w.heap.size w w') : PL w0 w' v i :=
  ⟨owned_at h.o fun k _ hl => hb.block k hl, h.b.trans (hb.mono h.b.size)⟩
theorem PL.push {w0 w w1 w3 : World} {v v3 : Value} {i : Nat} (h : PL w0 w v i) (hb : Below w.heap.size w w1) (ho : w3.ownsRow w0.heap.size 52 54 v3 (i + 1) ((List.range i).flatMap (fun _ => LKp.cells) ++ LKp.cells)) (hg : w1.grownBy w3 v.ownBlock) : PL w0 w3 v3 (i + 1) := by
  have h1 := h.below hb
  refine ⟨by rw [List.range_succ, List.flatMap_append]; simpa using ho, h1.b.trans ?_⟩
  exact ((grown_keep h1.o hg h1.b.size (fun _ => False)).below _ (Nat.le_refl _) (fun _ _ h => h))
end Go.Proofs.Ytedkbjimofiphaa

namespace Go.Proofs.Ytedkbjimofiphaa
open Go.RowKit Fl
end Go.Proofs.Ytedkbjimofiphaa

namespace Go.Proofs.Ytedkbjimofiphaa
open Go.RowKit Fl
end Go.Proofs.Ytedkbjimofiphaa

namespace Go.Proofs.Ytedkbjimofiphaa
open Go.RowKit
section
open Go.ChangeShapes Go.WideShapes Go.RowKit
variable {H : Type} {enc : TypeId × Value → H} {P : Program} {w : World}
theorem trod_floatQ {k : FloatKind} {e : TypeId} {n : Nat} {v : Value} {y : DataW H × List MemPlace} (he : P.underlying e = some (.float k)) (h : DataW.trod enc P w 0 (fun _ => true) true n e [v] = some y) : ∃ x, v = .float k x ∧ (Lit.float k x).wf = true := by
  cases n with
  | zero => simp [DataW.trod] at h
  | succ n =>
    unfold DataW.trod at h
    rw [he] at h
    split at h <;> simp_all
end
end Go.Proofs.Ytedkbjimofiphaa
