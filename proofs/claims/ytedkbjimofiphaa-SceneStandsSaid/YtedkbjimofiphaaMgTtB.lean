/- scene.Total: the walk. The law's items: its drawn region, printed by gen_it.py. -/
import Derived.Test.YtedkbjimofiphaaMgBdB
import Derived.Test.YtedkbjimofiphaaMgRdD
namespace Go.Proofs.Ytedkbjimofiphaa
open Go.RowKit Fl
def arL (T : Nat → ITM) (n : Nat) : List Int := (List.range n).map fun k => areaP (T k)
def cvL (T : Nat → ITM) (n : Nat) : List Int := (List.range n).map fun k => opP .mul (areaP (T k)) (pl (T k).o)
theorem accS_snoc (l : List Nat) (x : Nat) : accS (l ++ [x]) = addS (accS l) x := by unfold accS; rw [List.foldl_append]; rfl
structure TA (w0 w : World) (a3 a4 : Nat) (T : Nat → ITM) (i : Nat) (l1 l2 : List Nat) : Prop where
  c3 : AccAt w a3 (accS l1)
  c4 : AccAt w a4 (accS l2)
  l3 : w0.heap.size < a3
  l4 : a3 < a4
  lt : a4 < w.heap.size
  t : w.there w0.heap.size 0 7
  b : Below w0.heap.size w0 w
  u1 : ∀ x ∈ l1, U x
  u2 : ∀ x ∈ l2, U x
  p1 : l1.map pl = arL T i
  p2 : l2.map pl = cvL T i
theorem TA.below {w0 w w' : World} {a3 a4 i : Nat} {T : Nat → ITM} {l1 l2 : List Nat} (h : TA w0 w a3 a4 T i l1 l2) (hb : Below w.heap.size w w') : TA w0 w' a3 a4 T i l1 l2 := by
  have e := h.lt; have e4 := h.l4; have e3 := h.l3
  exact ⟨h.c3.below hb (by omega), h.c4.below hb h.lt, h.l3, h.l4, Nat.lt_of_lt_of_le h.lt hb.size, there_below h.t hb (by omega), h.b.trans (hb.mono (by omega)), h.u1, h.u2, h.p1, h.p2⟩
theorem there_only {w w' : World} {b c o n : Nat} (h : w.there c o n) (ho : Only b w w') (hc : c < w.heap.size) (hne : c ≠ b) : w'.there c o n := fun j hj => by
  have hb := ho.block c hc hne
  rw [World.cell?_of_block (w := w) (a := ⟨c, o + j, none⟩) hb, World.frozen?_of_block (w := w) (a := ⟨c, o + j, none⟩) hb]; exact h j hj
theorem range_only {w w' : World} {b c o : Nat} {cs : List Value} (h : w.rangeAt c o cs) (ho : Only b w w') (hc : c < w.heap.size) (hne : c ≠ b) : w'.rangeAt c o cs := fun j v hj =>
  (World.cell?_of_block (w := w) (a := ⟨c, o + j, none⟩) (ho.block c hc hne)).trans (h j v hj)
theorem TA.next {w0 w w2 w3 w4 : World} {a3 a4 i r s : Nat} {T : Nat → ITM} {l1 l2 : List Nat} (h : TA w0 w a3 a4 T i l1 l2) (A1 : AccAt w2 a3 (addS (accS l1) r)) (O1 : Only a3 w w2) (B2 : Below w2.heap.size w2 w3)
    (A2 : AccAt w4 a4 (addS (accS l2) s)) (O2 : Only a4 w3 w4) (hr : RV r (areaP (T i))) (hs : RV s (opP .mul (areaP (T i)) (pl (T i).o))) : TA w0 w4 a3 a4 T (i + 1) (l1 ++ [r]) (l2 ++ [s]) := by
  have e := h.lt; have e4 := h.l4; have e3 := h.l3
  have s1 := O1.size; have s2 := B2.size; have s3 := O2.size
  refine ⟨by rw [accS_snoc]; exact (A1.below B2 (by omega)).only O2 (by omega) (by omega), by rw [accS_snoc]; exact A2, h.l3, h.l4, by omega, there_only (there_below (there_only h.t O1 (by omega) (by omega)) B2 (by omega)) O2 (by omega) (by omega), ?_, fun x hx => ?_, fun x hx => ?_, ?_, ?_⟩
  · exact O2.below (by omega) (by omega) ((O1.below (by omega) (by omega) h.b).trans (B2.mono (by omega)))
  · rcases List.mem_append.1 hx with hx | hx
    · exact h.u1 x hx
    · rw [List.mem_singleton.1 hx]; exact hr.1
  · rcases List.mem_append.1 hx with hx | hx
    · exact h.u2 x hx
    · rw [List.mem_singleton.1 hx]; exact hs.1
  · unfold arL; rw [List.map_append, h.p1, List.range_succ, List.map_append]; simp [arL, hr.2]
  · unfold cvL; rw [List.map_append, h.p2, List.range_succ, List.map_append]; simp [cvL, hs.2]
theorem TA.len {w0 w : World} {a3 a4 i : Nat} {T : Nat → ITM} {l1 l2 : List Nat} (h : TA w0 w a3 a4 T i l1 l2) : l1.length = i ∧ l2.length = i := by
  have h1 := congrArg List.length h.p1
  have h2 := congrArg List.length h.p2
  unfold arL at h1; unfold cvL at h2
  simpa using And.intro h1 h2
/-- what Total tells -/
structure TotR (T : Nat → ITM) (n : Nat) (a b q0 q1 q2 q3 : Nat) : Prop where
  a : RV a (pV (accP (arL T n)))
  b : RV b (pV (accP (cvL T n)))
  q0 : RV q0 (if n = 0 then 0 else bdL T (4 * n))
  q1 : RV q1 (if n = 0 then 0 else bdT T (4 * n))
  q2 : RV q2 (if n = 0 then 0 else opP .sub (bdR T (4 * n)) (bdL T (4 * n)))
  q3 : RV q3 (if n = 0 then 0 else opP .sub (bdB T (4 * n)) (bdT T (4 * n)))
def totV (n a b q0 q1 q2 q3 : Nat) : Value := .agg #[.int .i64 (n : Int), .float .f64 a, .float .f64 b, .float .f64 q0, .float .f64 q1, .float .f64 q2, .float .f64 q3]
set_option maxRecDepth 100000 in
set_option maxHeartbeats 4000000 in
theorem total16 (w : World) (g n c : Nat) (T : Nat → ITM) (hT : ∀ k, k < n → (T k).OK) (hn : n ≤ 1048576) (h0 : 0 < n) (hr : ∀ k, k < n → w.rangeAt g (k * 23) (T k).cells) (hg : g < w.heap.size) :
    Calls Try.prog 16 #[.slice (some ⟨g, 0, none⟩) n c] w fun e w' => (∃ a b q0 q1 q2 q3, e = .returned (totV n a b q0 q1 q2 q3) ∧ TotR T n a b q0 q1 q2 q3) ∧ Below w.heap.size w w' := by
  have H := Lib.hid (And.intro hT (And.intro hr hg))
  have h1 := Lib.hid h0
  clear hT hr hg h0
  obtain ⟨W0, hW0⟩ : ∃ W0, W0 = w.alloc (.cells #[.int .i64 0, .float .f64 0, .float .f64 0, .float .f64 0, .float .f64 0, .float .f64 0, .float .f64 0] 67) := ⟨_, rfl⟩
  have t0 : W0.there w.heap.size 0 7 := by rw [hW0]; exact there_new w _ 67 7 rfl
  have s0 : W0.heap.size = w.heap.size + 1 := by rw [hW0]; simp
  have b0 : Below w.heap.size w W0 := by rw [hW0]; exact (Below.refl _ _).alloc (Nat.le_refl _) _
  have I0 := Lib.hid (And.intro t0 (And.intro s0 b0))
  have HW := Lib.hid hW0
  clear hW0 t0 s0 b0
  go_enter Try.func16, Try.ntmps16
  go_upto_region 1 with fail
  rw [← HW.out]
  clear HW
  go_wp2_with fail
  go_at_call 19
  refine (c35 W0).mono ?_
  rintro e w1 ⟨rfl, ha, hb, hs⟩
  have I1 := Lib.hid (And.intro ha (And.intro hb hs))
  clear ha hb hs
  go_wp2_with fail
  go_at_call 19
  refine (c35 w1).mono ?_
  rintro e w2 ⟨rfl, ha, hb, hs⟩
  have A0 := Lib.hid (show TA w w2 W0.heap.size w1.heap.size T 0 [] [] from
    ⟨I1.out.1.below hb I1.out.2.2, ha, by have := I0.out.2.1; omega, I1.out.2.2, hs, there_below (there_below I0.out.1 I1.out.2.1 (by have := I0.out.2.1; omega)) hb (by have := I0.out.2.1; have := I1.out.2.2; omega), (I0.out.2.2.trans (I1.out.2.1.mono I0.out.2.2.size)).trans (hb.mono (by have := I0.out.2.1; have := I1.out.2.2; omega)), (fun x hx => by cases hx), (fun x hx => by cases hx), rfl, rfl⟩)
  clear ha hb hs I0 I1
  generalize W0.heap.size = a3 at *
  generalize w1.heap.size = a4 at *
  go_wp2_with fail
  go_loopw [14] (fun ii wx => ∃ (i : Nat) (l1 l2 : List Nat), ii = .int .i64 (i : Int) ∧ i ≤ n ∧ Hid (TA w wx a3 a4 T i l1 l2)) (fun ii _ => n - (intOf ii).toNat)
  case atStart => exact ⟨0, [], [], by go_num, by omega, A0⟩
  case round =>
    obtain ⟨i, l1, l2, rfl, hin, hA⟩ := hrel
    clear A0
    by_cases hlt : i < n
    · have hii : (i : Int) < (n : Int) := by omega
      have di : decide ((i : Int) < (n : Int)) = true := decide_eq_true hii
      have OK := Lib.hid (H.out.1 i hlt)
      have RA := Lib.hid (range_below (H.out.2.1 i hlt) hA.out.b H.out.2.2)
      have SZ := Lib.hid (sz60 OK.out)
      have SA := Lib.hid (item_sz OK.out)
      have OA := Lib.hid (item_all (T i))
      have NI := Lib.hid (new_item wr OK.out)
      have CA := Lib.hid (fun (w' : World) => c20 w' (T i) OK.out)
      have CO := Lib.hid (fun (w' : World) (h : w'.rangeAt wr.heap.size 0 (T i).cells) => ITM.co OK.out.m h)
      generalize htc : (T i).cells = tc at *
      go_upto_region 5 with (first
        | (refine wpList_load_mid rfl 60 (.tmp 16) rfl g (i * 23) rfl tc _ RA.out Try.underlying60 rfl SZ.out ?_)
        | (refine wpList_store_mid rfl 60 (.tmp 6) (.tmp 17) rfl wr.heap.size 0 tc.toArray rfl rfl NI.out.1 SA.out OA.out ?_))
      show Code.wp _ _ _ _ ((wr.alloc (.cells Z23 60)).setCells wr.heap.size 0 tc)
      obtain ⟨-, B1, r1, s1⟩ := NI.out
      have R1 := Lib.hid (And.intro r1 s1)
      have W1 := Lib.hid (hA.out.below B1)
      have LL := Lib.hid hA.out.lt
      clear r1 NI RA SA OA B1 s1 hA htc
      generalize (wr.alloc (.cells Z23 60)).setCells wr.heap.size 0 tc = w1 at *
      generalize wr.heap.size = p9 at *
      go_wp2_with (refine wpList_load_mid rfl 60 (.tmp 6) rfl p9 0 rfl tc _ R1.out.1 Try.underlying60 rfl SZ.out ?_)
      go_at_call 20
      refine (CA.out w1).mono fun e w2 ⟨⟨r, he, hu, hp⟩, hb2⟩ => ?_
      subst he
      have W2 := Lib.hid (W1.out.below hb2)
      have R2 := Lib.hid (And.intro (range_below R1.out.1 hb2 (by have := R1.out.2; omega)) (show p9 < w2.heap.size by have := R1.out.2; have := hb2.size; omega))
      have HR := Lib.hid (show RV r (areaP (T i)) from ⟨hu, hp⟩)
      clear hu hp hb2 W1 R1 CA SZ
      go_wp2_with fail
      go_at_call 21
      refine (c37 a3 _ r w2 HR.out.1 W2.out.c3 (by have := W2.out.l4; have := W2.out.lt; omega)).mono ?_
      rintro e w3 ⟨rfl, hA3, hO3⟩
      have W3 := Lib.hid (And.intro hA3 hO3)
      have R3 := CO.out w3 (range_only R2.out.1 hO3 R2.out.2 (by have := LL.out; have := W2.out.l4; omega))
      rw [Nat.zero_add] at R3
      have hM := fun w => run_fop (P := Try.prog) .mul rfl 31 r (T i).o w
      have HS := Lib.hid (fun v => RV.fop .mul HR.out (RV.self OK.out.o) v)
      clear hA3 hO3 R2
      go_wp2_with fail
      go_at_call 21
      have D3 := Lib.hid (show Below w3.heap.size w3 (w3.drewN (fopN .mul r (T i).o)) from below_drewN (Below.refl _ _))
      have L3 := Lib.hid (show a4 < w3.heap.size by have := W2.out.lt; have := W3.out.2.size; omega)
      have C4 := Lib.hid ((W2.out.c4.only W3.out.2 W2.out.lt (by have := W2.out.l4; omega)).below D3.out L3.out)
      refine (c37 a4 _ _ _ (HS.out _).1 C4.out L3.out).mono ?_
      rintro e w5 ⟨rfl, hA5, hO5⟩
      have W5 := Lib.hid (TA.next W2.out W3.out.1 W3.out.2 D3.out hA5 hO5 HR.out (HS.out _))
      clear hA5 hO5 W2 W3 C4 D3 L3 HS R3 hM CO
      go_wp2_with fail
      go_roundw
      case rel => exact ⟨i + 1, _, _, by go_num, by omega, W5⟩
      case measure => simp [intOf]; omega
    · have e1 : i = n := by omega
      subst e1
      have di : decide ((i : Int) < (i : Int)) = false := decide_eq_false (by omega)
      have BD := Lib.hid (fun (w' : World) (hb : Below w.heap.size w w') => bounds39 w' g i c T H.out.1 hn h1.out (fun k hk => range_below (H.out.2.1 k hk) hb H.out.2.2) (Nat.lt_of_lt_of_le H.out.2.2 hb.size))
      go_wp2_with fail
      go_at_call 39
      refine (BD.out wr hA.out.b).mono ?_
      rintro e w3 ⟨⟨q0, q1, q2, q3, rfl, g0, g1, g2, g3⟩, hb3⟩
      have HQ := Lib.hid (And.intro g0 (And.intro g1 (And.intro g2 g3)))
      have W3 := Lib.hid (hA.out.below hb3)
      have T4 := Lib.hid (there_new w3 #[.float .f64 0, .float .f64 0, .float .f64 0, .float .f64 0] 33 4 rfl)
      have N4 := Lib.hid (new_row w3 #[.float .f64 0, .float .f64 0, .float .f64 0, .float .f64 0] 33 [.float .f64 q0, .float .f64 q1, .float .f64 q2, .float .f64 q3] rfl)
      clear g0 g1 g2 g3 hb3 hA
      go_upto_region 10 with (refine wpList_store_mid rfl 33 (.tmp 8) (.tmp 33) rfl w3.heap.size 0 #[.float .f64 q0, .float .f64 q1, .float .f64 q2, .float .f64 q3] rfl rfl T4.out size33 (oneF [q0, q1, q2, q3]) ?_)
      obtain ⟨b4, r4, -, s4⟩ := N4.out
      have W4 := W3.out.below b4
      have sz := W3.out.lt
      clear T4 N4 b4 W3
      generalize (w3.alloc (.cells #[.float .f64 0, .float .f64 0, .float .f64 0, .float .f64 0] 33)).setCells w3.heap.size 0 [.float .f64 q0, .float .f64 q1, .float .f64 q2, .float .f64 q3] = w4 at *
      generalize w3.heap.size = p8 at *
      have lens := W4.len
      refine treg10 w4 _ i c w.heap.size a3 a4 p8 (accS l1) (accS l2) q0 q1 q2 q3 _ _ _ _ _ _ _ _ _ _ _ _ _ _ _ _ _ _ _ _ _ _ _ _ _ _ _ _ _ _ _ _ _ _ _ _ _ _ W4.c3 W4.c4 (by have := W4.l4; have := W4.lt; omega) W4.lt (by have := W4.l4; omega) (acc_small l1 (by omega)) (acc_small l2 (by omega)) W4.t (by have := W4.l3; have := W4.l4; have := W4.lt; omega) r4 (by omega) (fun v35 v36 v37 v38 v39 v40 v41 v42 a b w6 hb6 ha hb => ?_)
      have hne : ¬ i = 0 := by have := h1.out; omega
      have TR := Lib.hid (show TotR T i a b q0 q1 q2 q3 from ⟨by rw [← W4.p1, ← accS_places W4.u1]; exact ha, by rw [← W4.p2, ← accS_places W4.u2]; exact hb, by rw [if_neg hne]; exact HQ.out.1, by rw [if_neg hne]; exact HQ.out.2.1, by rw [if_neg hne]; exact HQ.out.2.2.1, by rw [if_neg hne]; exact HQ.out.2.2.2⟩)
      have W6 := Lib.hid (W4.below hb6)
      clear W4 hb6 ha hb hne sz r4 s4 lens
      have TH := Lib.hid W6.out.t
      go_wp2
      refine bodyPost_ret (v := .agg _) (ret_row Try.prog Try.results16 rfl _ TH.out Try.underlying67 rfl size67) rfl ?_
      exact ⟨⟨a, b, q0, q1, q2, q3, rfl, TR.out⟩, below_setCells W6.out.b (Nat.le_refl _) 0 _⟩
end Go.Proofs.Ytedkbjimofiphaa

namespace Go.Proofs.Ytedkbjimofiphaa
open Go.RowKit Fl
/-- an item as it is drawn -/
structure LW where
  slot : Int
  x : Nat
  y : Nat
  w : Nat
  h : Nat
  m : List Nat
  o : Nat
structure LW.OK (t : LW) : Prop where
  x : U t.x
  y : U t.y
  w : U t.w
  h : U t.h
  m : MU t.m
  o : U t.o
def LW.it (l : LW) : ITM := ⟨(l.slot % 4294967296).toNat, 1, l.x, l.y, l.w, l.h, l.m, l.o⟩
theorem LW.itOK {l : LW} (h : l.OK) : l.it.OK := ⟨h.x, h.y, h.w, h.h, h.m, h.o⟩
def LW.rc (l : LW) : List Value := [.float .f64 l.x, .float .f64 l.y, .float .f64 l.w, .float .f64 l.h]
def LW.cells (l : LW) : List Value := .int .i64 l.slot :: (l.rc ++ (l.m.map (Value.float .f64) ++ [Value.float .f64 l.o]))
theorem LW.len {l : LW} (h : l.OK) : l.cells.length = 22 := by unfold LW.cells LW.rc; simp [h.m.1]
theorem LW.slotAt {w : World} {g o : Nat} {l : LW} (h : w.rangeAt g o l.cells) : w.cell? ⟨g, o, none⟩ = some (.int .i64 l.slot) := by
  have := h 0 _ (show l.cells[0]? = some (.int .i64 l.slot) from rfl)
  rwa [Nat.add_zero] at this
theorem LW.rcAt {w : World} {g o : Nat} {l : LW} (h : w.rangeAt g o l.cells) : w.rangeAt g (o + 1) l.rc := fun j v hj => by
  have hl := (List.getElem?_eq_some_iff.1 hj).1
  have := h (1 + j) v (by unfold LW.cells; rw [Nat.add_comm, List.getElem?_cons_succ, List.getElem?_append_left hl]; exact hj)
  rwa [← Nat.add_assoc] at this
theorem LW.mAt {w : World} {g o : Nat} {l : LW} (h : w.rangeAt g o l.cells) : w.rangeAt g (o + 5) (l.m.map (Value.float .f64)) := fun j v hj => by
  have hl := (List.getElem?_eq_some_iff.1 hj).1
  have := h (5 + j) v (by unfold LW.cells; rw [show 5 + j = (4 + j) + 1 by omega, List.getElem?_cons_succ, List.getElem?_append_right (by simp [LW.rc]), show 4 + j - l.rc.length = j by simp [LW.rc], List.getElem?_append_left hl]; exact hj)
  rwa [← Nat.add_assoc] at this
theorem LW.oAt {w : World} {g o : Nat} {l : LW} (hm : MU l.m) (h : w.rangeAt g o l.cells) : w.cell? ⟨g, o + 21, none⟩ = some (.float .f64 l.o) := by
  refine h 21 _ ?_
  unfold LW.cells
  rw [show 21 = 20 + 1 from rfl, List.getElem?_cons_succ, List.getElem?_append_right (by simp [LW.rc]), List.getElem?_append_right (by simp [LW.rc, hm.1])]
  simp [LW.rc, hm.1]
def LW.hd (l : LW) (k : Nat) : List Value := [.int .u32 (k : Int), .int .u32 1, .float .f64 l.x, .float .f64 l.y, .float .f64 l.w, .float .f64 l.h]
noncomputable def tr15 (n : Nat) : Code := (Try.f15.body.bind (findRegion n)).getD .skip
theorem built60L (k : Nat) (l : LW) (hm : l.m.length = 16) :
    Try.prog.built 60 [(0, .agg #[.int .u32 (k : Int), .int .u32 1]), (1, .agg #[.float .f64 l.x, .float .f64 l.y, .float .f64 l.w, .float .f64 l.h]), (2, .agg (l.m.map (Value.float .f64)).toArray), (3, .float .f64 l.o)] = some (l.hd k ++ (l.m.map (Value.float .f64) ++ [Value.float .f64 l.o])).toArray := by
  obtain ⟨a0, a1, a2, a3, a4, a5, a6, a7, a8, a9, a10, a11, a12, a13, a14, a15, e⟩ := list16 hm
  rw [e]
  kernel_rfl
set_option maxRecDepth 100000 in
set_option maxHeartbeats 2000000 in
theorem ireg5 {Q : Exit → Act → World → Prop} (w : World) (g0 os i n c0 base m cv : Nat) (pv : Option Addr) (xs : List Value) (l : LW) (u1 u2 u5 u6 u7 u8 u9 u10 u11 u12 u13 u14 u15 u16 u17 u18 u19 u20 u21 u22 u23 u24 u25 u26 u27 u28 u29 u30 u31 u32 u33 u34 u35 u36 u37 : Value) (hst : ∀ g, u35 = .slice (some ⟨g, 0, none⟩) 1 1 → g < w.heap.size)
    (hr : w.rangeAt g0 (os + i * 22) l.cells) (lg : g0 < w.heap.size) (hin : i < n) (hn : n ≤ 1048576) (hl : l.OK) (hown : w.ownsRow base 60 23 (.slice pv m cv) m xs) (hbase : base ≤ w.heap.size) (hm : m ≤ 1048576)
    (hfin : ∀ (v11 v12 v13 v14 v15 v16 v17 v18 v19 v20 v21 v22 v23 v24 v25 v26 v27 v28 v29 v30 v31 v32 v33 v34 v36 : Value) (vw : Value) (w1 w' : World) (g : Nat), Below w.heap.size w w1 → w'.ownsRow base 60 23 vw (m + 1) (xs ++ l.it.cells) → w1.grownBy w' (.slice pv m cv : Value).ownBlock → g < w'.heap.size → Q .normal ⟨List.toArray (.slice (some ⟨g0, os, none⟩) n c0 :: u1 :: u2 :: vw :: .int .i64 (i : Int) :: u5 :: u6 :: u7 :: u8 :: u9 :: u10 :: v11 :: v12 :: v13 :: v14 :: v15 :: v16 :: v17 :: v18 :: v19 :: v20 :: v21 :: v22 :: v23 :: v24 :: v25 :: v26 :: v27 :: v28 :: v29 :: v30 :: v31 :: v32 :: v33 :: v34 :: .slice (some ⟨g, 0, none⟩) 1 1 :: v36 :: u37 :: []), []⟩ w') : Code.wp Try.prog (tr15 5) Q ⟨List.toArray (.slice (some ⟨g0, os, none⟩) n c0 :: u1 :: u2 :: .slice pv m cv :: .int .i64 (i : Int) :: u5 :: u6 :: u7 :: u8 :: u9 :: u10 :: u11 :: u12 :: u13 :: u14 :: u15 :: u16 :: u17 :: u18 :: u19 :: u20 :: u21 :: u22 :: u23 :: u24 :: u25 :: u26 :: u27 :: u28 :: u29 :: u30 :: u31 :: u32 :: u33 :: u34 :: u35 :: u36 :: u37 :: []), []⟩ w := by
  obtain ⟨k, hk⟩ : ∃ k : Nat, l.slot % 4294967296 = (k : Int) := ⟨(l.slot % 4294967296).toNat, by omega⟩
  have EC : l.it.cells = l.hd k ++ (l.m.map (Value.float .f64) ++ [Value.float .f64 l.o]) := by unfold ITM.cells LW.it; rw [hk]; rfl
  have HF := Lib.hid hfin
  have LL := Lib.hid (ITM.len (LW.itOK hl))
  have O1 := Lib.hid (ITM.one l.it)
  rw [EC] at HF LL O1
  obtain ⟨R, hR⟩ : ∃ R : List Value → Prop, R = fun cs => cs = l.hd k ++ (l.m.map (Value.float .f64) ++ [Value.float .f64 l.o]) := ⟨_, rfl⟩
  have HR := Lib.hid hR
  have C0 := Lib.hid (show ∀ w', NB R w w' → w'.cell? ⟨g0, os + i * 22, none⟩ = some (.int .i64 l.slot) from fun w' hb => LW.slotAt (range_below hr hb.1 lg))
  have C1 := Lib.hid (show ∀ w', NB R w w' → w'.rangeAt g0 (os + i * 22 + 1) [.float .f64 l.x, .float .f64 l.y, .float .f64 l.w, .float .f64 l.h] from fun w' hb => LW.rcAt (range_below hr hb.1 lg))
  have C2 := Lib.hid (show ∀ w', NB R w w' → w'.rangeAt g0 (os + i * 22 + 5) (l.m.map (Value.float .f64)) from fun w' hb => LW.mAt (range_below hr hb.1 lg))
  have C3 := Lib.hid (show ∀ w', NB R w w' → w'.cell? ⟨g0, 0 + (os + i * 22 + 21), none⟩ = some (.float .f64 l.o) from fun w' hb => by rw [Nat.zero_add]; exact LW.oAt hl.m (range_below hr hb.1 lg))
  have S1 := Lib.hid (size80L l.m hl.m.1)
  have BT := Lib.hid (built60L k l hl.m.1)
  have EW := Lib.hid (show IntKind.u32.wrap l.slot = (k : Int) by rw [← hk]; simp [IntKind.wrap, IntKind.signed, IntKind.bits])
  have HO := Lib.hid (show ∀ w', NB R w w' → w'.ownsRow base 60 23 (.slice pv m cv) m xs ∧ base ≤ w'.heap.size from fun w' hb => ⟨owned_at hown fun k _ hl => hb.1.block k hl, Nat.le_trans hbase hb.1.size⟩)
  have HS := Lib.hid hst
  obtain ⟨i6, hi60, hz1, hz2⟩ : ∃ i0, Try.prog.info? 60 = some i0 ∧ i0.size = 23 ∧ i0.bytes = 176 := by
    have h := info60
    cases hx : Try.prog.info? 60 with
    | none => rw [hx] at h; cases h
    | some i0 => rw [hx] at h; simp at h; exact ⟨i0, rfl, h.1, h.2⟩
  obtain ⟨z6, hz0, hz3⟩ : ∃ z, i6.zero = some z ∧ z.cells.size = 23 := by
    have h := zero60
    rw [hi60, Option.bind_some] at h
    cases hx : i6.zero with
    | none => rw [hx] at h; cases h
    | some z => rw [hx] at h; exact ⟨z, rfl, by simpa using h⟩
  have H6 := Lib.hid (And.intro hi60 (And.intro hz0 (And.intro hz1 (And.intro hz2 hz3))))
  have CSZ := Lib.hid (show ((Try.prog.info? 60).map (·.size) = some 23) ∧ (((Try.prog.info? 60).bind (·.zero)).isSome = true) by rw [H6.out.1]; exact ⟨congrArg some H6.out.2.2.1, by rw [Option.bind_some, H6.out.2.1]; rfl⟩)
  have hii : (i : Int) < (n : Int) := by omega
  clear hfin hr lg hn hl hown hbase hi60 hz0 hz1 hz2 hz3 hst hR EC hk
  conv => arg 2; whnf
  refine RB.RT.wp_region_slot 25 (fun w' => NB R w w') 35 1 (fun _ _ _ => False) (by kernel_rfl) (by kernel_rfl) (NB.start R w) (fun g hg => HS.out g hg) ?_
  simp only [List.take_succ_cons, List.take_zero, List.drop_succ_cons, List.drop_zero]
  refine RB.RT.rel_move (v := .slice pv m cv) rfl rfl (by decide) ?_
  simp only [Act.put, List.setIfInBounds_toArray, List.set_cons_succ, List.set_cons_zero]
  refine RB.RT.rel_move (v := .slice (some ⟨g0, os, none⟩) n c0) rfl rfl (by decide) ?_
  simp only [Act.put, List.setIfInBounds_toArray, List.set_cons_succ, List.set_cons_zero]
  refine RB.RT.rel_move (v := .int .i64 (i : Int)) rfl rfl (by decide) ?_
  simp only [Act.put, List.setIfInBounds_toArray, List.set_cons_succ, List.set_cons_zero]
  refine RB.RT.rel_val (v := .pointer (some ⟨g0, os + i * 22, none⟩)) rfl (by decide) (fun w' hw => by go_simp) ?_
  simp only [Act.put, List.setIfInBounds_toArray, List.set_cons_succ, List.set_cons_zero]
  refine RB.RT.rel_val (v := .pointer (some ⟨g0, os + i * 22, none⟩)) rfl (by decide) (fun w' hw => by go_simp) ?_
  simp only [Act.put, List.setIfInBounds_toArray, List.set_cons_succ, List.set_cons_zero]
  refine RB.RT.rel_val (v := .int .i64 l.slot) rfl (by decide) (fun w' hw => by have h := C0.out w' hw; unfold execOp; go_simp) ?_
  simp only [Act.put, List.setIfInBounds_toArray, List.set_cons_succ, List.set_cons_zero]
  refine RB.RT.rel_val (v := .int .u32 (k : Int)) rfl (by decide) (fun w' hw => by unfold execOp; have e := EW.out; go_simp) ?_
  simp only [Act.put, List.setIfInBounds_toArray, List.set_cons_succ, List.set_cons_zero]
  refine RB.RT.rel_val (v := .agg #[.int .u32 (k : Int), .int .u32 1]) rfl (by decide) (fun w' hw => by kernel_rfl) ?_
  simp only [Act.put, List.setIfInBounds_toArray, List.set_cons_succ, List.set_cons_zero]
  refine RB.RT.rel_move (v := .slice (some ⟨g0, os, none⟩) n c0) rfl rfl (by decide) ?_
  simp only [Act.put, List.setIfInBounds_toArray, List.set_cons_succ, List.set_cons_zero]
  refine RB.RT.rel_move (v := .int .i64 (i : Int)) rfl rfl (by decide) ?_
  simp only [Act.put, List.setIfInBounds_toArray, List.set_cons_succ, List.set_cons_zero]
  refine RB.RT.rel_val (v := .pointer (some ⟨g0, os + i * 22, none⟩)) rfl (by decide) (fun w' hw => by go_simp) ?_
  simp only [Act.put, List.setIfInBounds_toArray, List.set_cons_succ, List.set_cons_zero]
  refine RB.RT.rel_val (v := .pointer (some ⟨g0, os + i * 22 + 1, none⟩)) rfl (by decide) (fun w' hw => by go_simp) ?_
  simp only [Act.put, List.setIfInBounds_toArray, List.set_cons_succ, List.set_cons_zero]
  refine RB.RT.rel_load_row g0 (os + i * 22 + 1) [.float .f64 l.x, .float .f64 l.y, .float .f64 l.w, .float .f64 l.h] _ rfl rfl (by decide) C1.out Try.underlying33 rfl size33 ?_
  simp only [Act.put, List.setIfInBounds_toArray, List.set_cons_succ, List.set_cons_zero]
  refine RB.RT.rel_move (v := .slice (some ⟨g0, os, none⟩) n c0) rfl rfl (by decide) ?_
  simp only [Act.put, List.setIfInBounds_toArray, List.set_cons_succ, List.set_cons_zero]
  refine RB.RT.rel_move (v := .int .i64 (i : Int)) rfl rfl (by decide) ?_
  simp only [Act.put, List.setIfInBounds_toArray, List.set_cons_succ, List.set_cons_zero]
  refine RB.RT.rel_val (v := .pointer (some ⟨g0, os + i * 22, none⟩)) rfl (by decide) (fun w' hw => by go_simp) ?_
  simp only [Act.put, List.setIfInBounds_toArray, List.set_cons_succ, List.set_cons_zero]
  refine RB.RT.rel_val (v := .pointer (some ⟨g0, os + i * 22 + 5, none⟩)) rfl (by decide) (fun w' hw => by go_simp) ?_
  simp only [Act.put, List.setIfInBounds_toArray, List.set_cons_succ, List.set_cons_zero]
  refine RB.RT.rel_load_row g0 (os + i * 22 + 5) (l.m.map (Value.float .f64)) _ rfl rfl (by decide) C2.out Try.underlying44 rfl S1.out ?_
  simp only [Act.put, List.setIfInBounds_toArray, List.set_cons_succ, List.set_cons_zero]
  refine RB.RT.rel_move (v := .slice (some ⟨g0, os, none⟩) n c0) rfl rfl (by decide) ?_
  simp only [Act.put, List.setIfInBounds_toArray, List.set_cons_succ, List.set_cons_zero]
  refine RB.RT.rel_move (v := .int .i64 (i : Int)) rfl rfl (by decide) ?_
  simp only [Act.put, List.setIfInBounds_toArray, List.set_cons_succ, List.set_cons_zero]
  refine RB.RT.rel_val (v := .pointer (some ⟨g0, os + i * 22, none⟩)) rfl (by decide) (fun w' hw => by go_simp) ?_
  simp only [Act.put, List.setIfInBounds_toArray, List.set_cons_succ, List.set_cons_zero]
  refine RB.RT.rel_val (v := .pointer (some ⟨g0, os + i * 22 + 21, none⟩)) rfl (by decide) (fun w' hw => by go_simp) ?_
  simp only [Act.put, List.setIfInBounds_toArray, List.set_cons_succ, List.set_cons_zero]
  refine RB.RT.rel_loadF g0 (os + i * 22 + 21) l.o rfl rfl (by decide) C3.out ?_
  simp only [Act.put, List.setIfInBounds_toArray, List.set_cons_succ, List.set_cons_zero]
  refine RB.RT.rel_build (parts := [(0, .tmp 18), (1, .tmp 23), (2, .tmp 28), (3, .tmp 33)]) [(0, .agg #[.int .u32 (k : Int), .int .u32 1]), (1, .agg #[.float .f64 l.x, .float .f64 l.y, .float .f64 l.w, .float .f64 l.h]), (2, .agg (l.m.map (Value.float .f64)).toArray), (3, .float .f64 l.o)] (l.hd k ++ (l.m.map (Value.float .f64) ++ [Value.float .f64 l.o])).toArray rfl BT.out rfl (by decide) ?_
  simp only [Act.put, List.setIfInBounds_toArray, List.set_cons_succ, List.set_cons_zero]
  refine RB.RT.rel_slice1 23 w.heap.size (l.hd k ++ (l.m.map (Value.float .f64) ++ [Value.float .f64 l.o])).toArray rfl Try.underlying36 CSZ.out.1 CSZ.out.2 (by rw [List.size_toArray]; exact LL.out) (by decide) (by decide) rfl (fun w' h => ⟨h.alloc _ 60 (by rw [HR.out]), h.1.size⟩) (fun g hg => ?_)
  simp only [Act.put, List.setIfInBounds_toArray, List.set_cons_succ, List.set_cons_zero]
  refine RB.RT.rel_nil ?_
  intro w' hw hic
  obtain ⟨cs, hcs, hrg⟩ := hw.2 g hg (hic g rfl)
  rw [HR.out] at hcs
  have HG := Lib.hid (hic g rfl)
  have HW := Lib.hid hw.1
  have OA := Lib.hid (HO.out w' hw)
  obtain ⟨ns, hns⟩ : ∃ ns, ns = l.hd k ++ (l.m.map (Value.float .f64) ++ [Value.float .f64 l.o]) := ⟨_, rfl⟩
  rw [← hns] at HF LL O1 hcs
  rw [hcs] at hrg
  have NC := Lib.hid (show ∀ j u, ns[j]? = some u → w'.cell? ((⟨g, 0, none⟩ : Addr).add j) = some u from fun j u hj => by rw [Addr.add_lit]; exact hrg j u hj)
  clear hrg hcs hns hic hw
  go_wp2_with (at_builtin; refine wpList_append_strong rfl _ _ 36 rfl base 60 i6 z6 23 176 Try.underlying36 H6.out.1 H6.out.2.1 H6.out.2.2.1 H6.out.2.2.2.1 H6.out.2.2.2.2 (by decide) _ _ _ rfl OA.out.1 ⟨g, 0, none⟩ 1 1 ns rfl ?c0 NC.out ?c2 ?c3 ?c4 ?c5 (by decide) ?_)
  case c0 => rw [LL.out]
  case c2 => exact O1.out
  case c3 => unfold maxLen; omega
  case c4 => omega
  case c5 => exact OA.out.2
  intro v3 w3 hown3 hgrow hblk
  have H3 := Lib.hid (And.intro hown3 hgrow)
  have hlt := Nat.lt_of_lt_of_le HG.out hgrow.size
  have HLT := Lib.hid hlt
  clear hown3 hgrow hblk hlt
  go_wp2
  exact HF.out _ _ _ _ _ _ _ _ _ _ _ _ _ _ _ _ _ _ _ _ _ _ _ _ _ v3 w' w3 g HW.out H3.out.1 H3.out.2 HLT.out
end Go.Proofs.Ytedkbjimofiphaa
